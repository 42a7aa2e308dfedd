/- Part PkE of the proof: PrimB PrimC PrimD PrimE PrimF. -/
import Derived.Test.YtinebfdbacaahaaGreatDoorPkD
import Derived.Test.YtinebfdbacaahaaGreatDoorPkS
import Derived.Test.YtinebfdbacaahaaGreatDoorPkA
import Derived.Test.YtinebfdbacaahaaGreatDoorChecked
import Derived.Lib.Builder
import Derived.Lib.Hide
import Derived.Lib.AppendStr
import Derived.Lib.UnsafeStr
import Derived.WalkKit
import Derived.Lib.ConvBytes
import Derived.Laws.IdiomStrings
set_option linter.unusedSimpArgs false
set_option linter.unusedVariables false
set_option linter.unusedSectionVars false
set_option linter.unnecessarySimpa false

/- The library's functions: what the shelf says of them, over data. -/
namespace Go.Abs
open Go Go.RowKit Go.Proofs

theorem DRt_cons {m : Addr → Option Value} {x : DV} {xs : List DV} {vals : List Value} (h : DRt m (x :: xs) vals) : ∃ v r, vals = v :: r ∧ DR m x v ∧ DRt m xs r := by
  simpa only [DRt] using h
theorem cell_spot {w : World} {a : Addr} {v : Value} (h : w.cell? a = some v) : a = ⟨a.block, a.off, none⟩ := by
  cases a with
  | mk b o s =>
    simp only [World.cell?] at h
    split at h
    · cases s with
      | none => rfl
      | some s => simp at h
    · cases h
theorem DRt_str {m : Addr → Option Value} {s : List UInt8} {xs : List DV} {vals : List Value} (h : DRt m (.str s :: xs) vals) : ∃ r, vals = .string ⟨s.toArray⟩ :: r ∧ DRt m xs r := by
  simp only [DRt, DR] at h
  obtain ⟨v, r, rfl, rfl, h⟩ := h
  exact ⟨r, rfl, h⟩
theorem DRt_int {m : Addr → Option Value} {k : IntKind} {n : Int} {xs : List DV} {vals : List Value} (h : DRt m (.int k n :: xs) vals) : ∃ r, vals = .int k n :: r ∧ DRt m xs r := by
  simp only [DRt, DR] at h
  obtain ⟨v, r, rfl, rfl, h⟩ := h
  exact ⟨r, rfl, h⟩
theorem DRt_nil {m : Addr → Option Value} {vals : List Value} (h : DRt m [] vals) : vals = [] := by simpa only [DRt] using h
theorem DR_tup2 {m : Addr → Option Value} {x y : DV} {u v : Value} (h : DR m x u) (k : DR m y v) : DR m (.tup [x, y]) (.tuple #[u, v]) := by
  simp only [DR]
  exact ⟨#[u, v], rfl, by simp only [DRt]; exact ⟨u, [v], rfl, h, v, [], rfl, k, rfl⟩⟩
theorem DR_tup3 {m : Addr → Option Value} {x y z : DV} {u v t : Value} (h : DR m x u) (k : DR m y v) (l : DR m z t) : DR m (.tup [x, y, z]) (.tuple #[u, v, t]) := by
  simp only [DR]
  exact ⟨#[u, v, t], rfl, by simp only [DRt]; exact ⟨u, [v, t], rfl, h, v, [t], rfl, k, t, [], rfl, l, rfl⟩⟩
theorem below_drewN {B : Nat} {w : World} (n : Nat) : Below B w (w.drewN n) := ⟨rfl, rfl, rfl, Nat.le_refl _, fun _ _ => rfl⟩

theorem pure93 {s : List UInt8} {n : Int} (h : 0 ≤ n ∧ n < 256) : Pure Tryz.prog 93 [.str s, .int .u8 n] (.int .i64 (Lib.indexByte s (UInt8.ofNat n.toNat))) := by
  intro m w vals hm hg hx
  obtain ⟨_, rfl, hx1⟩ := DRt_str hx
  obtain ⟨_, rfl, hx2⟩ := DRt_int hx1
  obtain rfl := DRt_nil hx2
  refine (Tryz.strings_IndexByte ⟨s.toArray⟩ n w).mono ?_
  rintro e w' ⟨rfl, rfl⟩
  exact ⟨_, rfl, Below.refl _ _, by simp only [DR]⟩
theorem pure141 {s p : List UInt8} : Pure Tryz.prog 141 [.str s, .str p] (.tup [.str (Lib.trimPrefix s p), .bool (Lib.hasPrefix s p)]) := by
  intro m w vals hm hg hx
  obtain ⟨_, rfl, hx1⟩ := DRt_str hx
  obtain ⟨_, rfl, hx2⟩ := DRt_str hx1
  obtain rfl := DRt_nil hx2
  refine (Tryz.strings_CutPrefix ⟨s.toArray⟩ ⟨p.toArray⟩ w).mono ?_
  rintro e w' ⟨rfl, rfl⟩
  exact ⟨_, rfl, Below.refl _ _, DR_tup2 (by simp only [DR]) (by simp only [DR])⟩
theorem pure201 {s p : List UInt8} (h : s.length ≤ 9223372036854775807) : Pure Tryz.prog 201 [.str s, .str p] (.tup [.str (Lib.trimSuffix s p), .bool (Lib.hasSuffix s p)]) := by
  intro m w vals hm hg hx
  obtain ⟨_, rfl, hx1⟩ := DRt_str hx
  obtain ⟨_, rfl, hx2⟩ := DRt_str hx1
  obtain rfl := DRt_nil hx2
  refine (Tryz.strings_CutSuffix ⟨s.toArray⟩ ⟨p.toArray⟩ w (by rw [str_size]; exact h)).mono ?_
  rintro e w' ⟨rfl, rfl⟩
  exact ⟨_, rfl, Below.refl _ _, DR_tup2 (by simp only [DR]) (by simp only [DR])⟩
theorem pure235 {s p : List UInt8} : Pure Tryz.prog 235 [.str s, .str p] (.str (Lib.trimPrefix s p)) := by
  intro m w vals hm hg hx
  obtain ⟨_, rfl, hx1⟩ := DRt_str hx
  obtain ⟨_, rfl, hx2⟩ := DRt_str hx1
  obtain rfl := DRt_nil hx2
  refine (Tryz.strings_TrimPrefix ⟨s.toArray⟩ ⟨p.toArray⟩ w).mono ?_
  rintro e w' ⟨rfl, rfl⟩
  exact ⟨_, rfl, Below.refl _ _, by simp only [DR]⟩
theorem pure209 {s p : List UInt8} : Pure Tryz.prog 209 [.str s, .str p] (.int .i64 (Lib.compareBytes s p)) := by
  intro m w vals hm hg hx
  obtain ⟨_, rfl, hx1⟩ := DRt_str hx
  obtain ⟨_, rfl, hx2⟩ := DRt_str hx1
  obtain rfl := DRt_nil hx2
  refine (Tryz.strings_Compare ⟨s.toArray⟩ ⟨p.toArray⟩ w).mono ?_
  rintro e w' ⟨rfl, rfl⟩
  exact ⟨_, rfl, Below.refl _ _, by simp only [DR]⟩
theorem pure94 {s p : List UInt8} (h : s.length ≤ maxLenN) : Pure Tryz.prog 94 [.str s, .str p] (.tup [.str (Lib.cut s p).1, .str (Lib.cut s p).2.1, .bool (Lib.cut s p).2.2]) := by
  intro m w vals hm hg hx
  obtain ⟨_, rfl, hx1⟩ := DRt_str hx
  obtain ⟨_, rfl, hx2⟩ := DRt_str hx1
  obtain rfl := DRt_nil hx2
  obtain ⟨k, hk⟩ := hg.maxLen
  unfold maxLenN at h
  refine (Tryz.strings_Cut ⟨s.toArray⟩ ⟨p.toArray⟩ k w (by rw [str_size]; omega) (hm _ _ hk)).mono ?_
  rintro e w' ⟨rfl, n, rfl⟩
  exact ⟨_, rfl, below_drewN n, DR_tup3 (by simp only [DR]) (by simp only [DR]) (by simp only [DR])⟩

/-- Texts in a row. -/
theorem strs_DRe {m : Addr → Option Value} : ∀ (xs : List (List UInt8)), DRe m 1 (xs.map .str) (xs.map fun s => Value.string ⟨s.toArray⟩)
  | [] => by simp [DRe]
  | s :: xs => by
    simp only [List.map_cons, DRe]
    exact ⟨.string ⟨s.toArray⟩, _, rfl, rfl, by simp [Value.cells, Value.oneCell'], by simp only [DR], strs_DRe xs⟩
theorem DRe_strs {m : Addr → Option Value} : ∀ {xs : List (List UInt8)} {vs : List Value}, DRe m 1 (xs.map .str) vs → vs = xs.map fun s => Value.string ⟨s.toArray⟩
  | [], vs, h => by simpa only [List.map_nil, DRe] using h
  | s :: xs, vs, h => by
    simp only [List.map_cons, DRe, DR] at h
    obtain ⟨u, r, rfl, _, _, rfl, h⟩ := h
    rw [DRe_strs h]
    rfl
theorem pure143 {s : List UInt8} {c : UInt8} (h : s.length ≤ maxLenN) : Pure Tryz.prog 143 [.str s, .str [c]] (slc 1 ((splitC c s).map .str)) := by
  intro m w vals hm hg hx
  obtain ⟨_, rfl, hx1⟩ := DRt_str hx
  obtain ⟨_, rfl, hx2⟩ := DRt_str hx1
  obtain rfl := DRt_nil hx2
  obtain ⟨k, hk⟩ := hg.maxLen
  unfold maxLenN at h
  refine (Tryz.strings_Split ⟨s.toArray⟩ ⟨[c].toArray⟩ k w (by rw [str_size]; omega) (hm _ _ hk) (by rw [str_size]; simp)).mono ?_
  rintro e w' ⟨rfl, rfl⟩
  have hd := Lib.splitB_data ⟨[c].toArray⟩ 0 (Lib.countB ⟨s.toArray⟩ ⟨[c].toArray⟩) ⟨s.toArray⟩
  have hs := split_C c s
  unfold Lib.split at hs
  have hd2 : (Lib.splitB ⟨[c].toArray⟩ 0 (Lib.countB ⟨s.toArray⟩ ⟨[c].toArray⟩) ⟨s.toArray⟩).map (·.data.toList) = splitC c s := by
    rw [hd]; exact hs
  have hl := Lib.splitB_all ⟨[c].toArray⟩ (by rw [str_size]; simp) 0 _ ⟨s.toArray⟩ rfl
  have hlen : (splitC c s).length = Lib.countB ⟨s.toArray⟩ ⟨[c].toArray⟩ + 1 := by rw [← hd2, List.length_map]; exact hl
  have hcells : (Lib.splitB ⟨[c].toArray⟩ 0 (Lib.countB ⟨s.toArray⟩ ⟨[c].toArray⟩) ⟨s.toArray⟩).map Value.string = (splitC c s).map fun s => Value.string ⟨s.toArray⟩ := by
    rw [← hd2, List.map_map]
    apply List.map_congr_left
    intro x _
    simp
  rw [hcells]
  refine ⟨_, rfl, (Below.refl _ _).alloc (Nat.le_refl _) _, ?_⟩
  rw [← hlen]
  have : (splitC c s).length = ((splitC c s).map DV.str).length := by simp
  rw [this]
  refine slc_DR (by simp) (strs_DRe _) (fun j u hj => ⟨_, rfl, ?_⟩)
  rw [grow_new hm (by simp [addr_add_block])]
  rw [addr_add_mk, cell_mk (heap_new w _)]
  simpa using hj
theorem pure109 {xs : List (List UInt8)} {sep : List UInt8} (h : (Lib.join xs sep).length ≤ maxLenN) (hn : xs.length ≤ maxLenN) : Pure Tryz.prog 109 [slc 1 (xs.map .str), .str sep] (.str (Lib.join xs sep)) := by
  intro m w vals hm hg hx
  unfold maxLenN at h hn
  obtain ⟨v, r, rfl, hv, hx1⟩ := DRt_cons hx
  obtain ⟨_, rfl, hx2⟩ := DRt_str hx1
  obtain rfl := DRt_nil hx2
  cases xs with
  | nil =>
    simp only [List.map_nil, slc, canon1, DR] at hv
    obtain ⟨A, c, vs, rfl, _⟩ := hv
    refine (Tryz.strings_Join_none A c ⟨sep.toArray⟩ w).mono ?_
    rintro e w' ⟨rfl, rfl⟩
    exact ⟨_, rfl, Below.refl _ _, by simp only [DR, Lib.join_nil]⟩
  | cons x xs =>
    simp only [List.map_cons, slc, canon1, DR] at hv
    obtain ⟨A, c, vs, rfl, hc, he, ha⟩ := hv
    have hvs := DRe_strs (xs := x :: xs) he
    have h0 : vs[0]? = some (.string ⟨x.toArray⟩) := by rw [hvs]; rfl
    obtain ⟨ad, rfl, h1⟩ := ha 0 _ h0
    have hsp := cell_spot (hm _ _ h1)
    simp only [addr_add_zero] at hsp
    have hcell : ∀ (j : Nat) y, ((x :: xs).map fun s : List UInt8 => (⟨s.toArray⟩ : ByteArray))[j]? = some y → w.cell? ⟨ad.block, ad.off + j, none⟩ = some (.string y) := by
      intro j y hj
      have h2 : vs[j]? = some (.string y) := by
        rw [hvs]
        rw [List.getElem?_map] at hj ⊢
        obtain ⟨z, hz, rfl⟩ := Option.map_eq_some_iff.1 hj
        rw [hz]; rfl
      obtain ⟨ad', hA, h3⟩ := ha j _ h2
      cases hA
      have h4 := hm _ _ h3
      rw [hsp, addr_add_mk] at h4
      exact h4
    have hdata : ((x :: xs).map fun s : List UInt8 => (⟨s.toArray⟩ : ByteArray)).map (·.data.toList) = x :: xs := by
      rw [List.map_map]
      conv => rhs; rw [← List.map_id (x :: xs)]
      apply List.map_congr_left
      intro y _
      simp
    have hj := Tryz.strings_Join ad.block ad.off c ((x :: xs).map fun s : List UInt8 => (⟨s.toArray⟩ : ByteArray)) ⟨sep.toArray⟩ w hcell (by have := cell_lt (hm _ _ h1); simpa [addr_add_block] using this) (by rw [List.length_map]; omega) (by simpa using hc) (by rw [hdata]; exact Nat.le_trans h (by omega))
    rw [hdata] at hj
    rw [hsp]
    rw [List.length_map] at hj
    rw [show (DV.str x :: xs.map DV.str).length = (x :: xs).length by simp]
    refine hj.mono ?_
    rintro e w' ⟨rfl, hb⟩
    exact ⟨_, rfl, hb, by simp only [DR]⟩
end Go.Abs

/- strings.Builder: its methods' contracts, with all that stays as it was. -/
namespace Go.Abs
open Go Go.RowKit Go.Proofs Go.Lib

theorem info5 : (Tryz.prog.info? 5).map (fun i => (i.zero, i.size, i.bytes)) = some (some (.int .u8 0), 1, 1) := by kernel_rfl
theorem size82 : (Tryz.prog.info? 82).map (·.size) = some 2 := by kernel_rfl
theorem lies82 : liesAt Tryz.prog Tryz.prog.depth 82 (2 / Tryz.prog.cellsOf 82) 0 82 1 = true := by kernel_rfl

set_option maxHeartbeats 1000000 in
set_option maxRecDepth 100000 in
theorem copyCheck_used (b : Nat) (w : World) (h0 : w.cell? ⟨b, 0, none⟩ = some (.pointer (some ⟨b, 0, none⟩))) :
    Calls Tryz.prog 135 #[.pointer (some ⟨b, 0, none⟩)] w fun e w' => e = .returned (.tuple #[]) ∧ w' = w := by
  obtain ⟨j, hj, _⟩ := Option.map_eq_some_iff.1 size82
  go_enter Tryz.func135, Tryz.ntmps135
  go_wp2
  rw [Lib.run_neq_ptr_same w _ Tryz.underlying79 hj]
  go_wp2
  go_end0
  exact ⟨rfl, rfl⟩

set_option maxHeartbeats 1000000 in
set_option maxRecDepth 100000 in
theorem copyCheck_fresh (b : Nat) (w : World) (h0 : w.cell? ⟨b, 0, none⟩ = some (.pointer none)) (hsh : w.shape? b = some (82, 2)) (hfz : w.frozen? ⟨b, 0, none⟩ = false) :
    Calls Tryz.prog 135 #[.pointer (some ⟨b, 0, none⟩)] w fun e w' => e = .returned (.tuple #[]) ∧ w' = w.setCell ⟨b, 0, none⟩ (.pointer (some ⟨b, 0, none⟩)) := by
  obtain ⟨j, hj, hjs⟩ := Option.map_eq_some_iff.1 size82
  go_enter Tryz.func135, Tryz.ntmps135
  go_wp2
  rw [Lib.run_to_unsafe w ⟨b, 0, none⟩ Tryz.underlying79 Tryz.underlying224 hj (by rw [hjs]; decide) hsh (Nat.zero_lt_succ 1)]
  simp only [Result.andThen]
  rw [Oper.upon_value]
  go_wp2
  rw [run_callFunc_extern Tryz.func178 (by kernel_rfl) (by kernel_rfl) (by kernel_rfl) (e := Extern.AbiNoEscape.same) (by kernel_rfl)]
  rw [Lib.run_noEscape]
  simp only [Result.andThen]
  rw [Oper.upon_value]
  go_wp2
  rw [Lib.run_from_unsafe w ⟨b, 0, none⟩ Tryz.underlying224 Tryz.underlying79 hj hsh lies82]
  simp only [Result.andThen]
  rw [Oper.upon_value]
  go_wp2
  go_end0
  exact ⟨rfl, rfl⟩

/-- Where the row of an append lies. -/
def NewRow (w : World) (v v' : Value) : Prop := ∀ r, v'.ownBlock = some r → v.ownBlock = some r ∨ w.heap.size ≤ r
section
variable {w : World} {i : TypeInfo}
theorem app_slice (hi : Tryz.prog.info? 5 = some i) (hz0 : i.zero = some (.int .u8 0)) (hz1 : i.size = 1) (hz2 : i.bytes = 1) (ty : TypeId) {v : Value} {n : Nat} {xs : List Value} (hown : w.ownsRow 0 5 1 v n xs)
    (a : Addr) (m c : Nat) (news : List Value) (hl : news.length = m) (hnews : ∀ (j : Nat) u, news[j]? = some u → w.cell? (a.add j) = some u) (h1 : ∀ u ∈ news, u.oneCell' = true) (hb : n + m ≤ 1073741824) :
    ∃ v' w', (Builtin.append_ #[80, 80] ty #[v, .slice (some a) m c]).run Tryz.prog w = .ok v' w' ∧ w'.ownsRow 0 5 1 v' (n + m) (xs ++ news) ∧ w.grownBy w' v.ownBlock ∧ NewRow w v v' := by
  obtain ⟨v', w', hr, h2, h3, h4⟩ := run_append_own (P := Tryz.prog) w 0 80 ty 5 i (.int .u8 0) 1 1 Tryz.underlying80 hi hz0 hz1 hz2 rfl (by decide) v n xs hown a m c news (by omega) hnews h1 (by unfold maxLen; omega) (by omega) (Nat.zero_le _)
  refine ⟨v', w', hr, h2, h3, fun r hv => ?_⟩
  have hls : news.length = m * i.size := by rw [hz1]; omega
  rcases hown.2 with ⟨rfl, rfl⟩ | ⟨g, cap, cur, rfl, hbg, hg, hnc, hcm, hcs, htake⟩
  · by_cases hm : m = 0
    · rw [h4.2 ⟨rfl, hm⟩] at hv; cases hv
    · have hr2 := run_append_nil (P := Tryz.prog) w 80 ty 5 i _ Tryz.underlying80 hi hz0 a m c news hls hnews (by omega) (by omega) (by rw [hz2]; omega)
      rw [hr2] at hr
      cases hr
      right
      simp [Value.ownBlock] at hv
      omega
  · by_cases hroom : n + m ≤ cap
    · have hr2 := run_append_room (P := Tryz.prog) w 80 ty 5 i Tryz.underlying80 hi g n cap cur hg a m c news hls hnews h1 hroom (by rw [hz1, hcs, hl]; omega)
      rw [hr2] at hr
      cases hr
      left
      simpa [Value.ownBlock] using hv
    · have holds : ∀ (j : Nat) u, xs[j]? = some u → w.cell? ((⟨g, 0, none⟩ : Addr).add j) = some u := hown.cells (g := g) rfl
      have hr2 := run_append_grow (P := Tryz.prog) w 80 ty 5 i _ Tryz.underlying80 hi hz0 ⟨g, 0, none⟩ n cap xs (by rw [hz1]; exact hown.1) holds a m c news hls hnews (by omega) (by omega) (growslice_fits (by omega) (by rw [hz2]; omega))
      rw [hr2] at hr
      cases hr
      right
      simp [Value.ownBlock] at hv
      omega
theorem app_string (hi : Tryz.prog.info? 5 = some i) (hz0 : i.zero = some (.int .u8 0)) (hz1 : i.size = 1) (hz2 : i.bytes = 1) (ty : TypeId) {v : Value} {n : Nat} {xs : List Value} (hown : w.ownsRow 0 5 1 v n xs)
    (s : ByteArray) (hb : n + s.size ≤ 1073741824) :
    ∃ v' w', (Builtin.append_ #[80, 9] ty #[v, .string s]).run Tryz.prog w = .ok v' w' ∧ w'.ownsRow 0 5 1 v' (n + s.size) (xs ++ Lib.strCells s) ∧ w.grownBy w' v.ownBlock ∧ NewRow w v v' := by
  obtain ⟨v', w', hr, h2, h3, h4⟩ := Lib.run_append_own_string (P := Tryz.prog) w 0 80 9 ty 5 i Tryz.underlying80 Tryz.underlying9 hi hz0 hz1 hz2 v n xs hown s (by unfold maxLen; omega) (by omega) (Nat.zero_le _)
  refine ⟨v', w', hr, h2, h3, fun r hv => ?_⟩
  rcases hown.2 with ⟨rfl, rfl⟩ | ⟨g, cap, cur, rfl, hbg, hg, hnc, hcm, hcs, htake⟩
  · by_cases hm : s.size = 0
    · rw [h4.2 ⟨rfl, hm⟩] at hv; cases hv
    · have hr2 := run_append_nil_string (P := Tryz.prog) w 80 9 ty 5 i _ Tryz.underlying80 Tryz.underlying9 hi hz0 s (by omega) (by omega) (by rw [hz2]; omega)
      rw [hr2] at hr
      cases hr
      right
      simp [Value.ownBlock] at hv
      omega
  · by_cases hroom : n + s.size ≤ cap
    · have hr2 := Lib.run_append_room_string (P := Tryz.prog) w 80 9 ty 5 i Tryz.underlying80 Tryz.underlying9 hi hz1 g n cap cur hg s hroom (by rw [show cur.size = cap by simpa using hcs]; exact hroom)
      rw [hr2] at hr
      cases hr
      left
      simpa [Value.ownBlock] using hv
    · have holds : ∀ (j : Nat) u, xs[j]? = some u → w.cell? ((⟨g, 0, none⟩ : Addr).add j) = some u := hown.cells (g := g) rfl
      have hr2 := Lib.run_append_grow_string (P := Tryz.prog) w 80 9 ty 5 i _ Tryz.underlying80 Tryz.underlying9 hi hz0 ⟨g, 0, none⟩ n cap xs (by rw [hz1]; exact hown.1) holds s (by omega) (by omega) (by rw [hz2]; exact growslice_fits (by omega) (by omega))
      rw [hr2] at hr
      cases hr
      right
      simp [Value.ownBlock] at hv
      omega
end

theorem wpl_slice {ops : Array Oper} {rest : List Oper} {o : Oper} {a : Act} {w : World} {i : TypeInfo} {Q : Exit → Act → World → Prop} (hgd : o.guard = none) (s x : Operand) (ho : o.op = .call { callee := .builtin .append, args := #[s, x], argTypes := #[80, 80] })
    (hi : Tryz.prog.info? 5 = some i) (hz0 : i.zero = some (.int .u8 0)) (hz1 : i.size = 1) (hz2 : i.bytes = 1) {v : Value} {n : Nat} {xs : List Value} (hs : a.eval s = v) (hown : w.ownsRow 0 5 1 v n xs)
    (ad : Addr) (m c : Nat) (news : List Value) (hx : a.eval x = .slice (some ad) m c) (hl : news.length = m) (hnews : ∀ (j : Nat) u, news[j]? = some u → w.cell? (ad.add j) = some u) (h1 : ∀ u ∈ news, u.oneCell' = true) (hb : n + m ≤ 1073741824)
    (h : ∀ v' w', w'.ownsRow 0 5 1 v' (n + m) (xs ++ news) → w.grownBy w' v.ownBlock → NewRow w v v' → wpList Tryz.prog ops Q rest (a.put o.dst v') w') : wpList Tryz.prog ops Q (o :: rest) a w := by
  refine wpList_plain hgd fun K hK => ?_
  obtain ⟨v', w', hr, h2, h3, h4⟩ := app_slice hi hz0 hz1 hz2 o.type hown ad m c news hl hnews h1 hb
  unfold Oper.wp execOp
  simp only [ho, resolve, invoke, builtin, Sem.run_bind, Sem.run_pure, Result.andThen_ok, List.map_toArray, List.map_cons, List.map_nil, hs, hx, hr]
  exact hK _ _ (h v' w' h2 h3 h4)
theorem wpl_string {ops : Array Oper} {rest : List Oper} {o : Oper} {a : Act} {w : World} {i : TypeInfo} {Q : Exit → Act → World → Prop} (hgd : o.guard = none) (s x : Operand) (ho : o.op = .call { callee := .builtin .append, args := #[s, x], argTypes := #[80, 9] })
    (hi : Tryz.prog.info? 5 = some i) (hz0 : i.zero = some (.int .u8 0)) (hz1 : i.size = 1) (hz2 : i.bytes = 1) {v : Value} {n : Nat} {xs : List Value} (hs : a.eval s = v) (hown : w.ownsRow 0 5 1 v n xs)
    (t : ByteArray) (hx : a.eval x = .string t) (hb : n + t.size ≤ 1073741824)
    (h : ∀ v' w', w'.ownsRow 0 5 1 v' (n + t.size) (xs ++ Lib.strCells t) → w.grownBy w' v.ownBlock → NewRow w v v' → wpList Tryz.prog ops Q rest (a.put o.dst v') w') : wpList Tryz.prog ops Q (o :: rest) a w := by
  refine wpList_plain hgd fun K hK => ?_
  obtain ⟨v', w', hr, h2, h3, h4⟩ := app_string hi hz0 hz1 hz2 o.type hown t hb
  unfold Oper.wp execOp
  simp only [ho, resolve, invoke, builtin, Sem.run_bind, Sem.run_pure, Result.andThen_ok, List.map_toArray, List.map_cons, List.map_nil, hs, hx, hr]
  exact hK _ _ (h v' w' h2 h3 h4)

/-- A builder: its two cells, its row. -/
structure Bld (g : Nat) (vb : Value) (l : List UInt8) (w : World) : Prop where
  cells : w.heap[g]? = some (.cells #[.pointer (some ⟨g, 0, none⟩), vb] 82 (0, 0))
  row : w.ownsRow 0 5 1 vb l.length (l.map fun c => Value.int .u8 c.toNat)
  ne : ∀ r, vb.ownBlock = some r → r ≠ g
/-- What a write to a builder leaves. -/
structure BStep (g : Nat) (vb vb' : Value) (w w' : World) : Prop where
  os : w'.os = w.os
  tape : w'.tape = w.tape
  output : w'.output = w.output
  size : w.heap.size ≤ w'.heap.size
  keep : ∀ k, k < w.heap.size → k ≠ g → vb.ownBlock ≠ some k → w'.heap[k]? = w.heap[k]?
  new : NewRow w vb vb'
theorem heap_setCell' (w : World) (a : Addr) (u : Value) (k : Nat) (h : k ≠ a.block) : (w.setCell a u).heap[k]? = w.heap[k]? := Below.heap_setCell w a u k h
theorem setCell_at {w : World} {g o : Nat} {cs : Array Value} {t : TypeId} {fz : Nat × Nat} (h : w.heap[g]? = some (.cells cs t fz)) (u : Value) : (w.setCell ⟨g, o, none⟩ u).heap[g]? = some (.cells (cs.setIfInBounds o u) t fz) := by
  simp only [World.setCell, Array.getElem?_modify, if_true, h]
  rfl

theorem BStep.refl (g : Nat) (vb : Value) (w : World) : BStep g vb vb w w := ⟨rfl, rfl, rfl, Nat.le_refl _, fun _ _ _ _ => rfl, fun _ h => .inl h⟩

theorem copyCheck_any (g : Nat) (vb : Value) (l : List UInt8) (w : World) (h : Bld g vb l w ∨ (w.heap[g]? = some (.cells #[.pointer none, .slice none 0 0] 82 (0, 0)) ∧ vb = .slice none 0 0 ∧ l = [])) :
    Calls Tryz.prog 135 #[.pointer (some ⟨g, 0, none⟩)] w fun e w' => e = .returned (.tuple #[]) ∧ Bld g vb l w' ∧ BStep g vb vb w w' := by
  rcases h with h | ⟨h, rfl, rfl⟩
  · refine (copyCheck_used g w (by rw [Lib.cell_of_heap h.cells]; rfl)).mono ?_
    rintro e w' ⟨rfl, rfl⟩
    exact ⟨rfl, h, BStep.refl _ _ _⟩
  · refine (copyCheck_fresh g w (by rw [Lib.cell_of_heap h]; rfl) (by simp [World.shape?, h]) (Lib.frozen_of_heap h 0)).mono ?_
    rintro e w' ⟨rfl, rfl⟩
    refine ⟨rfl, ⟨?_, World.ownsRow_nil _ 0 5 1, fun r h => by cases h⟩, ⟨rfl, rfl, rfl, by simp [World.setCell], fun k _ hk _ => heap_setCell' w _ _ k hk, fun r h => by cases h⟩⟩
    rw [setCell_at h]
    rfl

/-- Behind the append: what the store leaves. 'w2': the world behind the append, which began in 'wx' (w1, or w1 with a new block). -/
theorem bld_after {g : Nat} {vb v' : Value} {l l' : List UInt8} {w w1 wx w2 : World} (h1 : Bld g vb l w1) (hb1 : BStep g vb vb w w1) (hx : ∀ k, k < w1.heap.size → wx.heap[k]? = w1.heap[k]?) (hxs : w1.heap.size ≤ wx.heap.size) (hos : wx.os = w1.os ∧ wx.tape = w1.tape ∧ wx.output = w1.output)
    (hown : w2.ownsRow 0 5 1 v' l'.length (l'.map fun c => Value.int .u8 c.toNat)) (hgrow : wx.grownBy w2 vb.ownBlock) (hnew : NewRow wx vb v') :
    Bld g v' l' (w2.setCell ⟨g, 1, none⟩ v') ∧ BStep g vb v' w (w2.setCell ⟨g, 1, none⟩ v') := by
  have hlt : g < w1.heap.size := heap_lt h1.cells
  have hb2 : w2.heap[g]? = some (.cells #[.pointer (some ⟨g, 0, none⟩), vb] 82 (0, 0)) := by
    rw [hgrow.block g (by omega) (fun e => h1.ne g e.symm rfl), hx g hlt]
    exact h1.cells
  have hsz := hgrow.size
  have hsz1 := hb1.size
  have hne : ∀ r, v'.ownBlock = some r → r ≠ g := by
    intro r hr
    rcases hnew r hr with h2 | h2
    · exact h1.ne r h2
    · omega
  refine ⟨⟨?_, ?_, hne⟩, ?_⟩
  · rw [setCell_at hb2]; rfl
  · refine ⟨hown.1, ?_⟩
    rcases hown.2 with h2 | ⟨r, cap, cur, rfl, q1, q2, q3⟩
    · exact .inl h2
    · exact .inr ⟨r, cap, cur, rfl, q1, by rw [heap_setCell' _ _ _ _ (hne r rfl)]; exact q2, q3⟩
  · refine ⟨hgrow.os.trans (hos.1.trans hb1.os), hgrow.tape.trans (hos.2.1.trans hb1.tape), hgrow.output.trans (hos.2.2.trans hb1.output), ?_, ?_, ?_⟩
    · simp [World.setCell]; omega
    · intro k hk hkg hkv
      rw [heap_setCell' _ _ _ _ hkg, hgrow.block k (by omega) (fun e => hkv e.symm), hx k (by omega)]
      exact hb1.keep k hk hkg hkv
    · intro r hr
      rcases hnew r hr with h2 | h2
      · exact .inl h2
      · right; omega

def BldAny (g : Nat) (vb : Value) (l : List UInt8) (w : World) : Prop := Bld g vb l w ∨ (w.heap[g]? = some (.cells #[.pointer none, .slice none 0 0] 82 (0, 0)) ∧ vb = .slice none 0 0 ∧ l = [])

set_option maxHeartbeats 2000000 in
set_option maxRecDepth 100000 in
theorem writeByte_walk (g : Nat) (vb : Value) (l : List UInt8) (c : UInt8) (w : World) (h : BldAny g vb l w) (hlen : l.length + 1 ≤ 1073741824) :
    Calls Tryz.prog 85 #[.pointer (some ⟨g, 0, none⟩), .int .u8 c.toNat] w fun e w' => e = .returned .nilIface ∧ ∃ vb', Bld g vb' (l ++ [c]) w' ∧ BStep g vb vb' w w' := by
  obtain ⟨i0, hi, hz0, hz1, hz2⟩ := info_parts info5
  go_enter Tryz.func85, Tryz.ntmps85
  go_wp2_with (go_at_call 135; refine (copyCheck_any g vb l _ h).mono ?_)
  rintro e w1 ⟨rfl, h1, hb1⟩
  have hrow := h1.row
  have c1 : w1.cell? ⟨g, 1, none⟩ = some vb := by rw [Lib.cell_of_heap h1.cells]; rfl
  go_wp2_with (at_builtin; refine wpl_slice rfl _ _ rfl hi hz0 hz1 hz2 rfl (hrow.alloc _) ⟨w1.heap.size, 0, none⟩ 1 1 [.int .u8 c.toNat] rfl rfl ?d1 ?d2 hlen ?_)
  case d1 =>
    intro j u hj
    match j, hj with
    | 0, hj => simp at hj; subst hj; simp [Addr.add]
  case d2 => intro u hu; simp at hu; subst hu; rfl
  intro v' w2 hown' hgrow hnew
  have hlt : g < w1.heap.size := heap_lt h1.cells
  have hb2 : w2.heap[g]? = some (.cells #[.pointer (some ⟨g, 0, none⟩), vb] 82 (0, 0)) := by
    rw [hgrow.block g (by simp; omega) (fun e => h1.ne g e.symm rfl), Lib.alloc_old w1 _ g hlt]
    exact h1.cells
  have d1 : w2.cell? ⟨g, 1, none⟩ = some vb := by rw [Lib.cell_of_heap hb2]; rfl
  have f1 : w2.frozen? ⟨g, 1, none⟩ = false := Lib.frozen_of_heap hb2 1
  obtain ⟨r, cap, rfl⟩ : ∃ r cap, v' = .slice (some ⟨r, 0, none⟩) (l.length + 1) cap := by
    rcases hown'.2 with ⟨_, h0⟩ | ⟨r, cap, cur, hv, _⟩
    · omega
    · exact ⟨r, cap, hv⟩
  have hfin := bld_after (l' := l ++ [c]) h1 hb1 (fun k hk => Lib.alloc_old w1 _ k hk) (by simp) ⟨rfl, rfl, rfl⟩ (by simpa using hown') hgrow hnew
  clear hown' hgrow hnew hb2 hrow h h1 hb1
  go_wp2
  go_ret
  exact ⟨rfl, _, hfin⟩

set_option maxHeartbeats 2000000 in
set_option maxRecDepth 100000 in
theorem writeString_walk (g : Nat) (vb : Value) (l s : List UInt8) (w : World) (h : BldAny g vb l w) (hlen : l.length + s.length ≤ 1073741824) :
    Calls Tryz.prog 86 #[.pointer (some ⟨g, 0, none⟩), .string ⟨s.toArray⟩] w fun e w' => e = .returned (.tuple #[.int .i64 s.length, .nilIface]) ∧ ∃ vb', Bld g vb' (l ++ s) w' ∧ BStep g vb vb' w w' := by
  obtain ⟨i0, hi, hz0, hz1, hz2⟩ := info_parts info5
  have hs : (⟨s.toArray⟩ : ByteArray).size = s.length := by simp [ByteArray.size]
  obtain ⟨S, hS⟩ : ∃ S : ByteArray, S = ⟨s.toArray⟩ := ⟨_, rfl⟩
  rw [← hS] at hs ⊢
  rw [← hs] at hlen ⊢
  have HS := Lib.hid hS
  have Hs := Lib.hid hs
  clear hS hs
  go_enter Tryz.func86, Tryz.ntmps86
  go_wp2_with (go_at_call 135; refine (copyCheck_any g vb l _ h).mono ?_)
  rintro e w1 ⟨rfl, h1, hb1⟩
  have hrow := h1.row
  have c1 : w1.cell? ⟨g, 1, none⟩ = some vb := by rw [Lib.cell_of_heap h1.cells]; rfl
  go_wp2_with (at_builtin; refine wpl_string rfl _ _ rfl hi hz0 hz1 hz2 rfl hrow S rfl hlen ?_)
  intro v' w2 hown' hgrow hnew
  have hlt : g < w1.heap.size := heap_lt h1.cells
  have hb2 : w2.heap[g]? = some (.cells #[.pointer (some ⟨g, 0, none⟩), vb] 82 (0, 0)) := by
    rw [hgrow.block g hlt (fun e => h1.ne g e.symm rfl)]
    exact h1.cells
  have d1 : w2.cell? ⟨g, 1, none⟩ = some vb := by rw [Lib.cell_of_heap hb2]; rfl
  have f1 : w2.frozen? ⟨g, 1, none⟩ = false := Lib.frozen_of_heap hb2 1
  obtain ⟨ao, n', cap, rfl⟩ : ∃ ao n' cap, v' = .slice ao n' cap := by
    rcases hown'.2 with ⟨hv, _⟩ | ⟨r, cap, cur, hv, _⟩
    · exact ⟨_, _, _, hv⟩
    · exact ⟨_, _, _, hv⟩
  have hfin := bld_after (l' := l ++ s) h1 hb1 (fun k hk => rfl) (Nat.le_refl _) ⟨rfl, rfl, rfl⟩ (by
    have : l.map (fun c => Value.int .u8 c.toNat) ++ Lib.strCells S = (l ++ s).map fun c => Value.int .u8 c.toNat := by rw [HS.out]; simp [Lib.strCells]
    rw [this] at hown'
    rw [List.length_append, ← Hs.out]
    exact hown') hgrow hnew
  clear hown' hgrow hnew hb2 hrow h h1 hb1
  go_wp2
  go_ret2
  exact ⟨rfl, _, hfin⟩

set_option maxHeartbeats 2000000 in
set_option maxRecDepth 100000 in
theorem write_walk (g : Nat) (vb : Value) (l s : List UInt8) (a : Addr) (cp : Nat) (w : World) (h : BldAny g vb l w) (hlen : l.length + s.length ≤ 1073741824) (hcells : ∀ (j : Nat) c, s[j]? = some c → w.cell? (a.add j) = some (.int .u8 c.toNat)) (ha : s ≠ [] → a.block ≠ g) (hav : s ≠ [] → vb.ownBlock ≠ some a.block) :
    Calls Tryz.prog 136 #[.pointer (some ⟨g, 0, none⟩), .slice (some a) s.length cp] w fun e w' => e = .returned (.tuple #[.int .i64 s.length, .nilIface]) ∧ ∃ vb', Bld g vb' (l ++ s) w' ∧ BStep g vb vb' w w' := by
  obtain ⟨i0, hi, hz0, hz1, hz2⟩ := info_parts info5
  go_enter Tryz.func136, Tryz.ntmps136
  go_wp2_with (go_at_call 135; refine (copyCheck_any g vb l _ h).mono ?_)
  rintro e w1 ⟨rfl, h1, hb1⟩
  have hrow := h1.row
  have c1 : w1.cell? ⟨g, 1, none⟩ = some vb := by rw [Lib.cell_of_heap h1.cells]; rfl
  have hnews : ∀ (j : Nat) u, (s.map fun c => Value.int .u8 c.toNat)[j]? = some u → w1.cell? (a.add j) = some u := by
    intro j u hj
    rw [List.getElem?_map] at hj
    obtain ⟨c, hc, rfl⟩ := Option.map_eq_some_iff.1 hj
    have h2 := hcells j c hc
    have hs : s ≠ [] := by intro e; rw [e] at hc; cases hc
    have h3 := cell_lt h2
    rw [addr_add_block] at h3
    rw [World.cell?_of_block (w := w) (by rw [addr_add_block]; exact hb1.keep a.block h3 (ha hs) (hav hs))]
    exact h2
  go_wp2_with (at_builtin; refine wpl_slice rfl _ _ rfl hi hz0 hz1 hz2 rfl hrow a s.length cp (s.map fun c => Value.int .u8 c.toNat) rfl (by simp) hnews ?d2 hlen ?_)
  case d2 => intro u hu; obtain ⟨c, _, rfl⟩ := List.mem_map.1 hu; rfl
  intro v' w2 hown' hgrow hnew
  have hlt : g < w1.heap.size := heap_lt h1.cells
  have hb2 : w2.heap[g]? = some (.cells #[.pointer (some ⟨g, 0, none⟩), vb] 82 (0, 0)) := by
    rw [hgrow.block g hlt (fun e => h1.ne g e.symm rfl)]
    exact h1.cells
  have d1 : w2.cell? ⟨g, 1, none⟩ = some vb := by rw [Lib.cell_of_heap hb2]; rfl
  have f1 : w2.frozen? ⟨g, 1, none⟩ = false := Lib.frozen_of_heap hb2 1
  obtain ⟨ao, n', cap, rfl⟩ : ∃ ao n' cap, v' = .slice ao n' cap := by
    rcases hown'.2 with ⟨hv, _⟩ | ⟨r, cap, cur, hv, _⟩
    · exact ⟨_, _, _, hv⟩
    · exact ⟨_, _, _, hv⟩
  have hfin := bld_after (l' := l ++ s) h1 hb1 (fun k hk => rfl) (Nat.le_refl _) ⟨rfl, rfl, rfl⟩ (by rw [List.length_append, List.map_append]; exact hown') hgrow hnew
  clear hown' hgrow hnew hb2 hrow h h1 hb1 hnews hcells ha hav
  go_wp2
  go_ret2
  exact ⟨rfl, _, hfin⟩

/-- All but the row is as it was. -/
structure KeepBut (r : Option Nat) (w w' : World) : Prop where
  os : w'.os = w.os
  tape : w'.tape = w.tape
  output : w'.output = w.output
  size : w.heap.size ≤ w'.heap.size
  keep : ∀ k, k < w.heap.size → r ≠ some k → w'.heap[k]? = w.heap[k]?
theorem KeepBut.refl (r : Option Nat) (w : World) : KeepBut r w w := ⟨rfl, rfl, rfl, Nat.le_refl _, fun _ _ _ => rfl⟩
theorem KeepBut.drew {r : Option Nat} {w w' : World} (h : KeepBut r w w') : KeepBut r w w'.drew := ⟨h.os, h.tape, h.output, h.size, h.keep⟩
theorem KeepBut.alloc {r : Option Nat} {w w' : World} (h : KeepBut r w w') (o : Obj) : KeepBut r w (w'.alloc o) :=
  ⟨h.os, h.tape, h.output, by have := h.size; simp; omega, fun k hk hr => by rw [Lib.alloc_old w' _ k (by have := h.size; omega)]; exact h.keep k hk hr⟩
theorem KeepBut.freeze {w w' : World} {g n : Nat} (h : KeepBut (some g) w w') : KeepBut (some g) w (w'.freeze ⟨g, 0, none⟩ n) := by
  unfold World.freeze
  split
  · exact h
  · refine ⟨h.os, h.tape, h.output, ?_, fun k hk hr => ?_⟩
    · simpa using h.size
    · rw [← h.keep k hk hr]
      simp only [Array.getElem?_modify]
      rw [if_neg (fun e => hr (by rw [e]))]
theorem cells5 : Tryz.prog.cellsOf 5 = 1 := by kernel_rfl

set_option maxHeartbeats 2000000 in
set_option maxRecDepth 100000 in
theorem string_some (g b cap : Nat) (p : Value) (cur : Array Value) (l : List UInt8) (w : World) (hbk : w.heap[b]? = some (.cells #[p, .slice (some ⟨g, 0, none⟩) l.length cap] 82 (0, 0))) (hg : w.heap[g]? = some (.cells cur 5 (0, 0))) (h0 : l ≠ []) (hnc : l.length ≤ cap) (hcm : cap ≤ maxLen) (hcs : cur.size = cap)
    (hcells : ∀ (j : Nat) x, l[j]? = some x → w.cell? ((⟨g, 0, none⟩ : Addr).add j) = some (.int .u8 x.toNat)) :
    Calls Tryz.prog 44 #[.pointer (some ⟨b, 0, none⟩)] w fun e w' => e = .returned (.string ⟨l.toArray⟩) ∧ KeepBut (some g) w w' := by
  have hl0 : l.length ≠ 0 := by simpa using h0
  have c1 : w.drew.cell? ⟨b, 1, none⟩ = some (.slice (some ⟨g, 0, none⟩) l.length cap) := by
    have : w.drew.heap[b]? = some (.cells #[p, .slice (some ⟨g, 0, none⟩) l.length cap] 82 (0, 0)) := hbk
    rw [Lib.cell_of_heap this]; rfl
  have hSD : (Builtin.unsafeSliceData_ #[80] 141 #[.slice (some ⟨g, 0, none⟩) l.length cap]).run Tryz.prog w.drew = .ok (.pointer (some ⟨g, 0, none⟩)) w.drew :=
    Lib.run_unsafeSliceData_row _ _ _ _ _ _ (by omega)
  have hUS : (Builtin.unsafeString_ #[141, 3] 9 #[.pointer (some ⟨g, 0, none⟩), .int .i64 l.length]).run Tryz.prog w.drew = .ok (.string ⟨l.toArray⟩) (w.drew.freeze ⟨g, 0, none⟩ l.length) := by
    refine Lib.run_unsafeString_row w.drew 141 3 9 5 Tryz.underlying141 cells5 g cur.size (by have hg' : w.drew.heap[g]? = some (.cells cur 5 (0, 0)) := hg; simp [World.shape?, hg']) l h0 (by omega) (by unfold maxLen at hcm; omega) ?_
    intro j x hx
    exact hcells j x hx
  clear hcells hnc hcm hl0 hcs
  go_enter Tryz.func44, Tryz.ntmps44
  go_wp2
  go_region
  all_goals (go_wp2; go_ret; exact ⟨rfl, (KeepBut.refl _ w).drew.freeze⟩)

theorem unsafe_none (W : World) (q : Option Addr) : (Builtin.unsafeString_ #[141, 3] 9 #[.pointer q, .int .i64 0]).run Tryz.prog W = .ok (.string .empty) W := Lib.run_unsafeString_none W _ _ _ q

set_option maxHeartbeats 2000000 in
set_option maxRecDepth 100000 in
theorem string_nil (b : Nat) (p : Value) (w : World) (hbk : w.heap[b]? = some (.cells #[p, .slice none 0 0] 82 (0, 0))) :
    Calls Tryz.prog 44 #[.pointer (some ⟨b, 0, none⟩)] w fun e w' => e = .returned (.string ⟨#[]⟩) ∧ KeepBut none w w' := by
  have hUS := unsafe_none
  have c1 : w.drew.cell? ⟨b, 1, none⟩ = some (.slice none 0 0) := by
    have : w.drew.heap[b]? = some (.cells #[p, .slice none 0 0] 82 (0, 0)) := hbk
    rw [Lib.cell_of_heap this]; rfl
  have hSD : (Builtin.unsafeSliceData_ #[80] 141 #[.slice none 0 0]).run Tryz.prog w.drew = .ok (.pointer none) w.drew := rfl
  go_enter Tryz.func44, Tryz.ntmps44
  go_wp2
  go_region
  all_goals (go_wp2; go_ret; exact ⟨rfl, (KeepBut.refl _ w).drew⟩)

set_option maxHeartbeats 2000000 in
set_option maxRecDepth 100000 in
theorem string_noroom (b g : Nat) (p : Value) (cur : Array Value) (w : World) (hbk : w.heap[b]? = some (.cells #[p, .slice (some ⟨g, 0, none⟩) 0 0] 82 (0, 0))) (hg : w.heap[g]? = some (.cells cur 5 (0, 0))) :
    Calls Tryz.prog 44 #[.pointer (some ⟨b, 0, none⟩)] w fun e w' => e = .returned (.string ⟨#[]⟩) ∧ KeepBut none w w' := by
  have hUS := unsafe_none
  have hlt : b < w.heap.size := heap_lt hbk
  have c1 : w.drew.cell? ⟨b, 1, none⟩ = some (.slice (some ⟨g, 0, none⟩) 0 0) := by
    have : w.drew.heap[b]? = some (.cells #[p, .slice (some ⟨g, 0, none⟩) 0 0] 82 (0, 0)) := hbk
    rw [Lib.cell_of_heap this]; rfl
  have hSD : (Builtin.unsafeSliceData_ #[80] 141 #[.slice (some ⟨g, 0, none⟩) 0 0]).run Tryz.prog w.drew = .ok (.pointer (some ⟨w.drew.heap.size, 0, none⟩)) (w.drew.alloc (.view ⟨g, 0, none⟩ 5)) :=
    Lib.run_unsafeSliceData_zero w.drew _ _ 5 Tryz.underlying141 ⟨g, 0, none⟩ 0 (5, cur.size) (by have hg' : w.drew.heap[g]? = some (.cells cur 5 (0, 0)) := hg; simp [World.shape?, hg'])
  have c2 : (w.drew.alloc (.view ⟨g, 0, none⟩ 5)).cell? ⟨b, 1, none⟩ = some (.slice (some ⟨g, 0, none⟩) 0 0) := by
    have : (w.drew.alloc (.view ⟨g, 0, none⟩ 5)).heap[b]? = _ := (Lib.alloc_old w.drew _ b hlt).trans hbk
    rw [Lib.cell_of_heap this]; rfl
  have c3 : (w.alloc (.view ⟨g, 0, none⟩ 5)).drew.cell? ⟨b, 1, none⟩ = some (.slice (some ⟨g, 0, none⟩) 0 0) := c2
  have c0 : w.cell? ⟨b, 1, none⟩ = some (.slice (some ⟨g, 0, none⟩) 0 0) := c1
  go_enter Tryz.func44, Tryz.ntmps44
  go_wp2
  go_region
  all_goals (go_wp2; go_ret; exact ⟨rfl, (KeepBut.refl _ w).drew.alloc _⟩)

set_option maxHeartbeats 2000000 in
set_option maxRecDepth 100000 in
theorem string_room (b g cap : Nat) (p : Value) (w : World) (hc0 : cap ≠ 0) (hbk : w.heap[b]? = some (.cells #[p, .slice (some ⟨g, 0, none⟩) 0 cap] 82 (0, 0))) :
    Calls Tryz.prog 44 #[.pointer (some ⟨b, 0, none⟩)] w fun e w' => e = .returned (.string ⟨#[]⟩) ∧ KeepBut none w w' := by
  have hUS := unsafe_none
  have c1 : w.drew.cell? ⟨b, 1, none⟩ = some (.slice (some ⟨g, 0, none⟩) 0 cap) := by
    have : w.drew.heap[b]? = some (.cells #[p, .slice (some ⟨g, 0, none⟩) 0 cap] 82 (0, 0)) := hbk
    rw [Lib.cell_of_heap this]; rfl
  have hSD : (Builtin.unsafeSliceData_ #[80] 141 #[.slice (some ⟨g, 0, none⟩) 0 cap]).run Tryz.prog w.drew = .ok (.pointer (some ⟨g, 0, none⟩)) w.drew :=
    Lib.run_unsafeSliceData_row _ _ _ _ _ _ hc0
  clear hc0
  go_enter Tryz.func44, Tryz.ntmps44
  go_wp2
  go_region
  all_goals (go_wp2; go_ret; exact ⟨rfl, (KeepBut.refl _ w).drew⟩)

theorem string_walk (g : Nat) (vb : Value) (l : List UInt8) (w : World) (h : BldAny g vb l w) :
    Calls Tryz.prog 44 #[.pointer (some ⟨g, 0, none⟩)] w fun e w' => e = .returned (.string ⟨l.toArray⟩) ∧ KeepBut vb.ownBlock w w' := by
  rcases h with h | ⟨h, rfl, rfl⟩
  · have hr := h.row
    rcases h.row.2 with ⟨rfl, h0⟩ | ⟨r, cap, cur, rfl, _, q2, q3, q4, q5, q6⟩
    · obtain rfl : l = [] := List.eq_nil_of_length_eq_zero h0
      exact string_nil g _ w h.cells
    · cases l with
      | nil =>
        have weak : ∀ {w' : World}, KeepBut none w w' → KeepBut (some r) w w' := fun h => ⟨h.os, h.tape, h.output, h.size, fun k hk _ => h.keep k hk (by simp)⟩
        by_cases hc : cap = 0
        · subst hc
          exact (string_noroom g r _ cur w h.cells q2).mono fun e w' ⟨h1, h2⟩ => ⟨h1, weak h2⟩
        · exact (string_room g r cap _ w hc h.cells).mono fun e w' ⟨h1, h2⟩ => ⟨h1, weak h2⟩
      | cons c l =>
        refine string_some r g cap _ cur (c :: l) w h.cells q2 (by simp) q3 q4 (by simpa using q5) fun j x hx => ?_
        exact hr.cells (g := r) rfl j (.int .u8 x.toNat) (by rw [List.getElem?_map, hx]; rfl)
  · exact string_nil g _ w h
end Go.Abs

/- The builder's functions: sound. -/
namespace Go.Abs
open Go Go.RowKit Go.Proofs

theorem ownsRow_lt {w : World} {b : Nat} {e : TypeId} {sz n : Nat} {v : Value} {xs : List Value} (h : w.ownsRow b e sz v n xs) {r : Nat} (hr : v.ownBlock = some r) : r < w.heap.size := by
  rcases h.2 with ⟨rfl, _⟩ | ⟨g, cap, cur, rfl, _, q2, _⟩
  · cases hr
  · cases hr
    exact heap_lt q2

def Mem.giveB (M : Mem) (v : Value) : Mem := { M with own := fun k => if v.ownBlock = some k then some (.box 0) else M.own k }

theorem bld_back {M : Mem} {w w' : World} {g : Nat} {vb vb' : Value} {l l' : List UInt8} (hw : WR M [.bld l] [] w) (hb : M.box 0 = some g) (ho : M.own g = some (.box 0)) (hv : ∀ r, vb.ownBlock = some r → M.own r = some (.box 0))
    (h1 : Bld g vb' l' w') (h2 : BStep g vb vb' w w') : ∃ M', SR M w M' w' ∧ WR M' [.bld l'] [] w' ∧ M'.imm = M.imm := by
  have o3 : ∀ k x, (M.giveB vb').own k = some x → M.own k = some x ∨ (x = .box 0 ∧ vb'.ownBlock = some k ∧ w.heap.size ≤ k) := by
    intro k x h
    simp only [Mem.giveB] at h
    split at h
    · rename_i hk
      cases h
      rcases h2.new k hk with q | q
      · exact .inl (hv k q)
      · exact .inr ⟨rfl, hk, q⟩
    · exact .inl h
  have o2 : ∀ k x, M.own k = some x → x ≠ .box 0 → (M.giveB vb').own k = some x := by
    intro k x h hx
    simp only [Mem.giveB]
    split
    · rename_i hk
      rcases h2.new k hk with q | q
      · rw [hv k q] at h; cases h; exact absurd rfl hx
      · have := hw.lt k _ h; omega
    · exact h
  have o1 : ∀ k, M.own k = some (.box 0) → (M.giveB vb').own k = some (.box 0) := by
    intro k h
    simp only [Mem.giveB]
    split
    · rfl
    · exact h
  have keep : ∀ k, k < w.heap.size → M.own k ≠ some (.box 0) → w'.heap[k]? = w.heap[k]? := fun k hk hn =>
    h2.keep k hk (fun e => hn (by rw [e]; exact ho)) (fun e => hn (hv k e))
  refine ⟨M.giveB vb', ⟨⟨fun _ _ h => h, fun _ _ h => h, fun _ _ _ h => h, fun _ _ h => h⟩, fun k o h => o2 k _ h (by simp), fun _ _ _ _ h => h, ⟨h2.os, h2.tape, h2.output, h2.size⟩⟩, ?_, rfl⟩
  exact {
    imm := fun a v e => by
      have e0 := hw.imm a v e
      rw [World.cell?_of_block (w := w) (keep a.block (cell_lt e0) (hw.immb a v 0 e))]
      exact e0
    immb := fun a v b e k => by
      rcases o3 _ _ k with q | ⟨_, _, q⟩
      · exact hw.immb a v b e q
      · have := cell_lt (hw.imm a v e); omega
    box := fun b x e => by
      match b, e with
      | 0, e =>
        simp at e
        subst e
        exact ⟨g, _, vb', hb, o1 g ho, h1.cells, .inr ⟨rfl, h1.row, fun r hr => ⟨by simp [Mem.giveB, hr], h1.ne r hr⟩⟩⟩
      | b + 1, e => simp at e
    boxd := hw.boxd
    tok := fun t n e => by simp at e
    tokd := hw.tokd
    toked := hw.toked
    row := fun k o e => by
      rcases o3 _ _ e with q | ⟨q, _, _⟩
      · rw [keep k (hw.lt k _ q) (by rw [q]; simp)]
        exact hw.row k o q
      · cases q
    lt := fun k o e => by
      rcases o3 _ _ e with q | ⟨_, q, _⟩
      · exact Nat.lt_of_lt_of_le (hw.lt k o q) h2.size
      · exact ownsRow_lt h1.row q
    ownb := fun k b e => by
      rcases o3 _ _ e with q | ⟨q, _, _⟩
      · exact hw.ownb k b q
      · cases q; simp
    glob := hw.glob
    ownt := fun k t e => by
      rcases o3 _ _ e with q | ⟨q, _, _⟩
      · exact hw.ownt k t q
      · cases q }

theorem bld_any {M : Mem} {w : World} {l : List UInt8} (hw : WR M [.bld l] [] w) : ∃ g vb, M.box 0 = some g ∧ M.own g = some (.box 0) ∧ (∀ r, vb.ownBlock = some r → M.own r = some (.box 0)) ∧ BldAny g vb l w := by
  obtain ⟨g, va, vb, h1, h2, h3, h4⟩ := hw.box 0 (.bld l) rfl
  rcases h4 with ⟨rfl, rfl, rfl⟩ | ⟨rfl, h5, h6⟩
  · exact ⟨g, _, h1, h2, fun r hr => (by cases hr), .inr ⟨h3, rfl, rfl⟩⟩
  · exact ⟨g, vb, h1, h2, fun r hr => (h6 r hr).1, .inl ⟨h3, h5, fun r hr => (h6 r hr).2⟩⟩

theorem sound85 {args : List AV} {bs : List Box} {r : DV} {bs' : List Box} (h : pWriteByte args bs = some (r, bs')) : Sound Tryz.prog 85 args bs r bs' := by
  unfold pWriteByte at h
  split at h
  case h_2 => cases h
  rename_i n l
  split at h
  case isFalse => cases h
  rename_i hc
  cases h
  refine ⟨rfl, by simp [Box.plain], fun M w vals hw ha => ?_⟩
  obtain ⟨g, vb, hb, ho, hv, hB⟩ := bld_any hw
  simp only [ARs, AR, DR] at ha
  obtain ⟨_, _, rfl, ⟨g', q1, rfl⟩, _, _, rfl, rfl, rfl⟩ := ha
  rw [hb] at q1
  cases q1
  have e1 : Value.int .u8 n = .int .u8 ((UInt8.ofNat n.toNat).toNat : Int) := by
    rw [UInt8.toNat_ofNat']; congr 1; omega
  rw [e1]
  have hlen : l.length + 1 ≤ 1073741824 := hc.1
  refine (writeByte_walk g vb l (UInt8.ofNat n.toNat) w hB hlen).mono ?_
  rintro e w' ⟨rfl, vb', k1, k2⟩
  obtain ⟨M', k3, k4, k5⟩ := bld_back hw hb ho hv k1 k2
  exact ⟨_, M', rfl, k3, k4, by simp only [DR]⟩

theorem sound86 {args : List AV} {bs : List Box} {r : DV} {bs' : List Box} (h : pWriteString args bs = some (r, bs')) : Sound Tryz.prog 86 args bs r bs' := by
  unfold pWriteString at h
  split at h
  case h_2 => cases h
  rename_i s l
  split at h
  case isFalse => cases h
  rename_i hc
  cases h
  refine ⟨rfl, by simp [Box.plain], fun M w vals hw ha => ?_⟩
  obtain ⟨g, vb, hb, ho, hv, hB⟩ := bld_any hw
  simp only [ARs, AR, DR] at ha
  obtain ⟨_, _, rfl, ⟨g', q1, rfl⟩, _, _, rfl, rfl, rfl⟩ := ha
  rw [hb] at q1
  cases q1
  have hlen : l.length + s.length ≤ 1073741824 := hc
  refine (writeString_walk g vb l s w hB hlen).mono ?_
  rintro e w' ⟨rfl, vb', k1, k2⟩
  obtain ⟨M', k3, k4, k5⟩ := bld_back hw hb ho hv k1 k2
  exact ⟨_, M', rfl, k3, k4, DR_tup2 (by simp only [DR]) (by simp only [DR])⟩

theorem sound136 {args : List AV} {bs : List Box} {r : DV} {bs' : List Box} (h : pWrite args bs = some (r, bs')) : Sound Tryz.prog 136 args bs r bs' := by
  unfold pWrite at h
  split at h
  case h_2 => cases h
  rename_i k es l
  split at h
  case h_2 => cases h
  rename_i c s hds
  split at h
  case isFalse => cases h
  rename_i hc
  cases h
  refine ⟨rfl, by simp [Box.plain], fun M w vals hw ha => ?_⟩
  obtain ⟨g, vb, hb, ho, hv, hB⟩ := bld_any hw
  simp only [ARs, AR, DR] at ha
  obtain ⟨_, _, rfl, ⟨g', q1, rfl⟩, _, _, rfl, ⟨A, cp, vs, rfl, hcp, hes, hcell⟩, rfl⟩ := ha
  rw [hb] at q1
  cases q1
  have hk : k = 1 := by
    cases es with
    | nil => simp [dBytes] at hds
    | cons x es =>
      simp only [DRe] at hes
      obtain ⟨u, _, _, hu, _, hx, _⟩ := hes
      have : ∃ n, x = .int .u8 n := by
        unfold dBytes at hds
        split at hds
        · rename_i heq; cases heq
        · rename_i n _ heq; cases heq; exact ⟨n, rfl⟩
        · cases hds
      obtain ⟨n, rfl⟩ := this
      simp only [DR] at hx
      subst hx
      simpa [Value.cells] using hu.symm
  subst hk
  obtain ⟨e1, e2⟩ := dBytes_DRe hds hes
  subst e1
  obtain ⟨a, rfl, ha0⟩ := hcell 0 (.int .u8 c.toNat) rfl
  have hlen : l.length + (c :: s).length ≤ 1073741824 := hc
  have hblk : ∀ b, M.own a.block ≠ some (.box b) := fun b => by
    have := hw.immb _ _ b ha0
    rwa [addr_add_block] at this
  rw [e2]
  refine (write_walk g vb l (c :: s) a cp w hB hlen ?_ (fun _ e => hblk 0 (by rw [e]; exact ho)) (fun _ e => hblk 0 (hv _ e))).mono ?_
  · intro j x hx
    obtain ⟨a', q1, q2⟩ := hcell j (.int .u8 x.toNat) (by rw [List.getElem?_map, hx]; rfl)
    cases q1
    exact hw.imm _ _ q2
  rintro e w' ⟨rfl, vb', k1, k2⟩
  obtain ⟨M', k3, k4, k5⟩ := bld_back hw hb ho hv k1 k2
  exact ⟨_, M', rfl, k3, k4, DR_tup2 (by simp only [DR]) (by simp only [DR])⟩

theorem sound44 {args : List AV} {bs : List Box} {r : DV} {bs' : List Box} (h : pString args bs = some (r, bs')) : Sound Tryz.prog 44 args bs r bs' := by
  unfold pString at h
  split at h
  case h_2 => cases h
  rename_i l
  cases h
  refine ⟨rfl, fun x hx => ?_, fun M w vals hw ha => ?_⟩
  · simp at hx; subst hx; exact ⟨[.any, .any], rfl⟩
  obtain ⟨g, vb, hb, ho, hv, hB⟩ := bld_any hw
  simp only [ARs, AR] at ha
  obtain ⟨_, _, rfl, ⟨g', q1, rfl⟩, rfl⟩ := ha
  rw [hb] at q1
  cases q1
  obtain ⟨va, hheap, hva, hvb, hne⟩ : ∃ va, w.heap[g]? = some (.cells #[va, vb] 82 (0, 0)) ∧ va.oneCell' = true ∧ vb.oneCell' = true ∧ vb.ownBlock ≠ some g := by
    rcases hB with hB | ⟨q, rfl, _⟩
    · refine ⟨_, hB.cells, rfl, ?_, fun e => hB.ne g e rfl⟩
      rcases hB.row.2 with ⟨rfl, _⟩ | ⟨_, _, _, rfl, _⟩ <;> rfl
    · exact ⟨_, q, rfl, rfl, by simp [Value.ownBlock]⟩
  have hglt := hw.lt g _ ho
  refine (string_walk g vb l w hB).mono ?_
  rintro e w' ⟨rfl, k1⟩
  have keep : ∀ k, k < w.heap.size → M.own k ≠ some (.box 0) → w'.heap[k]? = w.heap[k]? := fun k hk hn => k1.keep k hk (fun e => hn (hv k e))
  refine ⟨_, M, rfl, ⟨Mle.refl M, fun _ _ h => h, fun _ _ _ _ h => h, ⟨k1.os, k1.tape, k1.output, k1.size⟩⟩, ?_, by simp only [DR]⟩
  exact {
    imm := fun a v e => by
      have e0 := hw.imm a v e
      rw [World.cell?_of_block (w := w) (keep a.block (cell_lt e0) (hw.immb a v 0 e))]
      exact e0
    immb := hw.immb
    box := fun b x e => by
      match b, e with
      | 0, e =>
        simp at e
        subst e
        refine ⟨g, #[va, vb], 82, hb, ho, by rw [k1.keep g hglt hne]; exact hheap, ?_⟩
        simp only [CR, AR, DR]
        exact ⟨va, [vb], rfl, hva, hva, vb, [], rfl, hvb, hvb, rfl⟩
      | b + 1, e => simp at e
    boxd := hw.boxd
    tok := fun t n e => by simp at e
    tokd := hw.tokd
    toked := hw.toked
    row := fun k o e => by
      rw [keep k (hw.lt k _ e) (by rw [e]; simp)]
      exact hw.row k o e
    lt := fun k o e => Nat.lt_of_lt_of_le (hw.lt k o e) k1.size
    ownb := hw.ownb
    glob := hw.glob
    ownt := hw.ownt }
end Go.Abs

/- The library's functions: sound. -/
namespace Go.Abs
open Go Go.RowKit Go.Proofs

theorem idxByte_up (c : UInt8) : ∀ (l : List UInt8) (i : Nat), idxByte c l i = if Lib.indexByte l c = -1 then -1 else Lib.indexByte l c + i
  | [], i => by simp [idxByte, Lib.indexByte]
  | x :: l, i => by
    unfold idxByte Lib.indexByte
    rw [idxByte_up c l (i + 1)]
    have := Lib.indexByte_ge l c
    simp only [beq_iff_eq]
    repeat' split
    all_goals omega
theorem idxByte_eq (c : UInt8) (l : List UInt8) : idxByte c l 0 = Lib.indexByte l c := by
  rw [idxByte_up]
  split <;> omega

theorem dStrs_eq : ∀ {es : List DV} {xs : List (List UInt8)}, dStrs es = some xs → es = xs.map .str
  | [], xs, h => by simp [dStrs] at h; subst h; rfl
  | x :: es, xs, h => by
    unfold dStrs at h
    split at h
    · rename_i q; cases q
    · rename_i s l q
      cases q
      split at h
      · rename_i r hr
        cases h
        rw [dStrs_eq hr]; rfl
      · cases h
    · cases h

section
variable {args : List AV} {bs : List Box} {r : DV} {bs' : List Box}
theorem sound93 (h : pIdxByte args bs = some (r, bs')) : Sound Tryz.prog 93 args bs r bs' := by
  unfold pIdxByte at h
  split at h
  case h_2 => cases h
  split at h
  case isFalse => cases h
  rename_i hc
  cases h
  rw [idxByte_eq]
  exact (pure93 hc.2).sound
theorem sound94 (h : pCut args bs = some (r, bs')) : Sound Tryz.prog 94 args bs r bs' := by
  unfold pCut at h
  split at h
  case h_2 => cases h
  split at h
  case isFalse => cases h
  rename_i hc
  cases h
  exact (pure94 hc).sound
theorem Pure_canon {f : FuncId} {k k' : Nat} {xs : List DV} {r : DV} (h : Pure Tryz.prog f (.slice k [] :: xs) r) : Pure Tryz.prog f (.slice k' [] :: xs) r := fun m w vals hm hg hx => by
  refine h m w vals hm hg ?_
  simp only [DRt, DR, DRe] at hx ⊢
  exact hx
theorem sound109 (h : pJoin args bs = some (r, bs')) : Sound Tryz.prog 109 args bs r bs' := by
  unfold pJoin at h
  split at h
  case h_2 => cases h
  split at h
  case h_2 => cases h
  rename_i k es p _ xs hxs
  split at h
  case isFalse => cases h
  rename_i hc
  cases h
  obtain rfl := dStrs_eq hxs
  have hp := pure109 (xs := xs) (sep := p) hc.2.1 hc.2.2
  cases xs with
  | nil => exact (Pure_canon (k := 0) hp).sound
  | cons x xs =>
    obtain rfl : k = 1 := by rcases hc.1 with q | q; exact q; cases q
    exact hp.sound
theorem sound141 (h : pCutPrefix args bs = some (r, bs')) : Sound Tryz.prog 141 args bs r bs' := by
  unfold pCutPrefix at h
  split at h
  case h_2 => cases h
  cases h
  exact pure141.sound
theorem sound143 (h : pSplit args bs = some (r, bs')) : Sound Tryz.prog 143 args bs r bs' := by
  unfold pSplit at h
  split at h
  case h_2 => cases h
  split at h
  case isFalse => cases h
  rename_i s c hc
  cases h
  have hp := pure143 (s := s) (c := c) hc
  cases hs : splitC c s with
  | nil => exact absurd hs (splitC_ne c s)
  | cons x xs =>
    rw [hs] at hp
    exact hp.sound
theorem sound201 (h : pCutSuffix args bs = some (r, bs')) : Sound Tryz.prog 201 args bs r bs' := by
  unfold pCutSuffix at h
  split at h
  case h_2 => cases h
  split at h
  case isFalse => cases h
  rename_i hc
  cases h
  unfold maxLenN at hc
  exact (pure201 (by omega)).sound
theorem sound209 (h : pCompare args bs = some (r, bs')) : Sound Tryz.prog 209 args bs r bs' := by
  unfold pCompare at h
  split at h
  case h_2 => cases h
  cases h
  exact pure209.sound
theorem sound235 (h : pTrimPrefix args bs = some (r, bs')) : Sound Tryz.prog 235 args bs r bs' := by
  unfold pTrimPrefix at h
  split at h
  case h_2 => cases h
  cases h
  exact pure235.sound
end
end Go.Abs

/- Lower: great letters made small. -/
namespace Go.Abs
open Go Go.RowKit Go.Proofs Go.Lib

def byteV (c : UInt8) : Value := .int .u8 c.toNat
/-- The row: k bytes made small, the others as they were, what is behind. -/
def lowRow (s : List UInt8) (k : Nat) (pad : List Value) : List Value := ((lowS (s.take k) ++ s.drop k).map byteV) ++ pad
theorem lowRow_at {s : List UInt8} {k : Nat} {pad : List Value} (h : k < s.length) : (lowRow s k pad)[k]? = some (byteV s[k]) := by
  have h1 : (lowS (s.take k)).length = k := by simp [lowS]; omega
  unfold lowRow
  rw [List.getElem?_append_left (by simp [h1]; omega), List.getElem?_map, List.getElem?_append_right (by omega), h1, Nat.sub_self, List.getElem?_drop, Nat.add_zero, List.getElem?_eq_getElem h]
  rfl
theorem lowRow_set {s : List UInt8} {k : Nat} {pad : List Value} (h : k < s.length) : (lowRow s k pad).set k (byteV (lowC s[k])) = lowRow s (k + 1) pad := by
  have h1 : (lowS (s.take k)).length = k := by simp [lowS]; omega
  have h2 : (lowS (s.take (k + 1))) = lowS (s.take k) ++ [lowC s[k]] := by
    rw [List.take_add_one, List.getElem?_eq_getElem h]; simp only [lowS, Option.toList_some, List.map_append, List.map_cons, List.map_nil]
  unfold lowRow
  rw [List.set_append_left _ _ (by simp [h1]; omega), h2, List.drop_eq_getElem_cons h]
  congr 1
  rw [List.map_append, List.set_append_right _ _ (by simp [h1]), List.length_map, h1, Nat.sub_self]
  simp only [List.map_append, List.map_cons, List.set_cons_zero, List.append_assoc, List.cons_append, List.nil_append]
theorem lowRow_same {s : List UInt8} {k : Nat} {pad : List Value} (h : k < s.length) (hc : lowC s[k] = s[k]) : lowRow s k pad = lowRow s (k + 1) pad := by
  rw [← lowRow_set h, hc]
  apply List.ext_getElem?
  intro j
  rw [List.getElem?_set]
  split
  · rename_i hj
    subst hj
    rw [lowRow_at h, if_pos]
    have := lowRow_at (pad := pad) h
    exact (List.getElem?_eq_some_iff.1 this).1
  · rfl

theorem low_bits0 : ∀ n : Fin 256, 65 ≤ n.val → n.val ≤ 90 → Go.bits BinOp.or IntKind.u8 (n.val : Int) 32 = ((lowC (UInt8.ofNat n.val)).toNat : Int) := by decide +kernel
theorem low_same0 : ∀ n : Fin 256, ¬ (65 ≤ n.val ∧ n.val ≤ 90) → lowC (UInt8.ofNat n.val) = UInt8.ofNat n.val := by decide +kernel
theorem low_add0 : ∀ n : Fin 256, 65 ≤ n.val → n.val ≤ 90 → (n.val : Int) + 32 = ((lowC (UInt8.ofNat n.val)).toNat : Int) := by decide +kernel
theorem low_add (c : UInt8) (h1 : (65 : Int) ≤ c.toNat) (h2 : (c.toNat : Int) ≤ 90) : (c.toNat : Int) + 32 = ((lowC c).toNat : Int) := by
  have := low_add0 ⟨c.toNat, c.toNat_lt⟩ (by show 65 ≤ c.toNat; omega) (by show c.toNat ≤ 90; omega)
  simpa using this
theorem low_bits (c : UInt8) (h1 : (65 : Int) ≤ c.toNat) (h2 : (c.toNat : Int) ≤ 90) : Go.bits BinOp.or IntKind.u8 (c.toNat : Int) 32 = ((lowC c).toNat : Int) := by
  have := low_bits0 ⟨c.toNat, c.toNat_lt⟩ (by show 65 ≤ c.toNat; omega) (by show c.toNat ≤ 90; omega)
  simpa using this
theorem low_same (c : UInt8) (h1 : ¬ ((65 : Int) ≤ c.toNat ∧ (c.toNat : Int) ≤ 90)) : lowC c = c := by
  have := low_same0 ⟨c.toNat, c.toNat_lt⟩ (by show ¬ (65 ≤ c.toNat ∧ c.toNat ≤ 90); omega)
  simpa using this

/-- The row's block. -/
structure LowW (w : World) (s : List UInt8) (pad : List Value) (k : Nat) (wr : World) : Prop where
  row : wr.heap[w.heap.size]? = some (.cells (lowRow s k pad).toArray 5 ((lowRow s 0 pad).length, (lowRow s 0 pad).length + 1))
  below : Below w.heap.size w wr

theorem lowRow_len (s : List UInt8) (k : Nat) (pad : List Value) : (lowRow s k pad).length = s.length + pad.length := by
  simp [lowRow, lowS]; omega
theorem LowW.cell {w : World} {s : List UInt8} {pad : List Value} {k : Nat} {wr : World} (h : LowW w s pad k wr) (hk : k < s.length) : wr.cell? ⟨w.heap.size, k, none⟩ = some (.int .u8 s[k].toNat) := by
  rw [cell_mk h.row]
  simpa [byteV] using lowRow_at (pad := pad) hk
theorem LowW.frozen {w : World} {s : List UInt8} {pad : List Value} {k : Nat} {wr : World} (h : LowW w s pad k wr) (hk : k < s.length) : wr.frozen? ⟨w.heap.size, k, none⟩ = false := by
  have := lowRow_len s 0 pad
  simp only [World.frozen?, h.row]
  simp; omega
theorem LowW.same {w : World} {s : List UInt8} {pad : List Value} {k : Nat} {wr : World} (h : LowW w s pad k wr) (hk : k < s.length) (hc : lowC s[k] = s[k]) : LowW w s pad (k + 1) wr :=
  ⟨by rw [← lowRow_same hk hc]; exact h.row, h.below⟩
theorem LowW.set {w : World} {s : List UInt8} {pad : List Value} {k : Nat} {wr : World} (h : LowW w s pad k wr) (hk : k < s.length) : LowW w s pad (k + 1) (wr.setCell ⟨w.heap.size, k, none⟩ (.int .u8 (lowC s[k]).toNat)) := by
  refine ⟨?_, h.below.setCell (Nat.le_refl _) _⟩
  rw [setCell_at h.row]
  rw [← lowRow_set hk]
  simp [byteV]
theorem LowW.start (w : World) (s : List UInt8) : LowW w s (List.replicate (grownCap w s.length 0 5 - s.length) (.int .u8 0)) 0 (Lib.bytesWorld w 5 ⟨s.toArray⟩) := by
  constructor
  · rw [Lib.bytesWorld_at_new]
    have e : Lib.bytesCells w 5 ⟨s.toArray⟩ = (lowRow s 0 (List.replicate (grownCap w s.length 0 5 - s.length) (.int .u8 0))).toArray := by
      simp [Lib.bytesCells, lowRow, lowS, byteV, ByteArray.size]
    rw [e]
    simp
  · exact ⟨rfl, rfl, rfl, by rw [Lib.bytesWorld_size]; omega, fun k hk => Lib.bytesWorld_at_old w _ _ k hk⟩
theorem LowW.back {w : World} {s : List UInt8} {pad : List Value} {wr : World} (h : LowW w s pad s.length wr) (c : Nat) : (convert 80 9 (.slice (some ⟨w.heap.size, 0, none⟩) s.length c)).run Tryz.prog wr = .ok (.string ⟨(lowS s).toArray⟩) wr := by
  have h1 := run_convert_bytes_back (P := Tryz.prog) wr 80 9 5 ⟨w.heap.size, 0, none⟩ c (lowS s) Tryz.underlying80 Tryz.underlying5 Tryz.underlying9 (fun j hj => by
    rw [addr_add_mk, cell_mk h.row]
    have hj' : j < s.length := by simpa [lowS] using hj
    simp [lowRow, byteV]
    rw [List.getElem?_append_left (by simpa using hj), List.getElem?_map, List.getElem?_eq_getElem hj]
    rfl)
  simpa [lowS] using h1

set_option maxHeartbeats 2000000 in
set_option maxRecDepth 100000 in
theorem lower_walk (s : List UInt8) (w : World) (h : s.length ≤ 1073741824) :
    Calls Tryz.prog 123 #[.string ⟨s.toArray⟩] w fun e w' => e = .returned (.string ⟨(lowS s).toArray⟩) ∧ Below w.heap.size w w' := by
  have hC := Lib.run_convert_string_bytes (P := Tryz.prog) w 9 80 5 ⟨s.toArray⟩ Tryz.underlying9 Tryz.underlying80 Tryz.underlying5
  rw [str_size] at hC
  have hst := Lib.hid (LowW.start w s)
  obtain ⟨pad, hpad⟩ : ∃ pad, pad = List.replicate (grownCap w s.length 0 5 - s.length) (Value.int .u8 0) := ⟨_, rfl⟩
  obtain ⟨W1, hW1⟩ : ∃ W1, W1 = Lib.bytesWorld w 5 ⟨s.toArray⟩ := ⟨_, rfl⟩
  obtain ⟨S, hS⟩ : ∃ S : ByteArray, S = ⟨s.toArray⟩ := ⟨_, rfl⟩
  obtain ⟨cp, hcp⟩ : ∃ cp, cp = grownCap w s.length 0 5 := ⟨_, rfl⟩
  rw [← hpad, ← hW1] at hst
  rw [← hW1, ← hS, ← hcp] at hC
  rw [← hS]
  clear hpad hW1 hS hcp
  go_enter Tryz.func123, Tryz.ntmps123
  go_wp2
  go_loopw [10] (fun i wr => ∃ k : Nat, k ≤ s.length ∧ i = .int .i64 k ∧ Hid (LowW w s pad k wr)) (fun i _ => s.length - (RowKit.intOf i).toNat)
  case atStart => exact ⟨0, Nat.zero_le _, rfl, hst⟩
  case round =>
    obtain ⟨k, hk, rfl, hrow⟩ := hrel
    have hcx : k < s.length → wr.cell? ⟨w.heap.size, k, none⟩ = some (.int .u8 (s.getD k 0).toNat) := fun hlt => by
      rw [LowW.cell hrow.out hlt]; simp [hlt]
    have hfx : k < s.length → wr.frozen? ⟨w.heap.size, k, none⟩ = false := fun hlt => LowW.frozen hrow.out hlt
    go_wp2
    · have hlt : k < s.length := by assumption
      have h1 : (65 : Int) ≤ s[k].toNat := by assumption
      have h2 : (s[k].toNat : Int) ≤ 90 := by assumption
      go_roundw
      case rel => exact ⟨k + 1, by omega, by go_num, by rw [low_bits _ h1 h2]; exact hrow.out.set hlt⟩
      case measure => simp [RowKit.intOf]; omega
    · have hlt : k < s.length := by assumption
      have h2 : (90 : Int) < s[k].toNat := by assumption
      go_roundw
      case rel => exact ⟨k + 1, by omega, by go_num, hrow.out.same hlt (low_same _ (by omega))⟩
      case measure => simp [RowKit.intOf]; omega
    · have hlt : k < s.length := by assumption
      have h2 : ¬ (65 : Int) ≤ s[k].toNat := by assumption
      go_roundw
      case rel => exact ⟨k + 1, by omega, by go_num, hrow.out.same hlt (low_same _ (by omega))⟩
      case measure => simp [RowKit.intOf]; omega
    · obtain rfl : k = s.length := by
        have : ¬ k < s.length := by assumption
        omega
      rw [hrow.out.back cp]
      simp only [Result.andThen]
      rw [Oper.upon_value]
      go_wp2
      go_ret
      exact ⟨rfl, hrow.out.below⟩
set_option maxHeartbeats 2000000 in
set_option maxRecDepth 100000 in
theorem lower2_walk (s : List UInt8) (w : World) (h : s.length ≤ 1073741824) :
    Calls Tryz.prog 154 #[.string ⟨s.toArray⟩] w fun e w' => e = .returned (.string ⟨(lowS s).toArray⟩) ∧ Below w.heap.size w w' := by
  have hC := Lib.run_convert_string_bytes (P := Tryz.prog) w 9 80 5 ⟨s.toArray⟩ Tryz.underlying9 Tryz.underlying80 Tryz.underlying5
  rw [str_size] at hC
  have hst := Lib.hid (LowW.start w s)
  obtain ⟨pad, hpad⟩ : ∃ pad, pad = List.replicate (grownCap w s.length 0 5 - s.length) (Value.int .u8 0) := ⟨_, rfl⟩
  obtain ⟨W1, hW1⟩ : ∃ W1, W1 = Lib.bytesWorld w 5 ⟨s.toArray⟩ := ⟨_, rfl⟩
  obtain ⟨S, hS⟩ : ∃ S : ByteArray, S = ⟨s.toArray⟩ := ⟨_, rfl⟩
  obtain ⟨cp, hcp⟩ : ∃ cp, cp = grownCap w s.length 0 5 := ⟨_, rfl⟩
  rw [← hpad, ← hW1] at hst
  rw [← hW1, ← hS, ← hcp] at hC
  rw [← hS]
  clear hpad hW1 hS hcp
  go_enter Tryz.func154, Tryz.ntmps154
  go_wp2
  go_loopw [9] (fun i wr => ∃ k : Nat, k ≤ s.length ∧ i = .int .i64 k ∧ Hid (LowW w s pad k wr)) (fun i _ => s.length - (RowKit.intOf i).toNat)
  case atStart => exact ⟨0, Nat.zero_le _, rfl, hst⟩
  case round =>
    obtain ⟨k, hk, rfl, hrow⟩ := hrel
    have hcx : k < s.length → wr.cell? ⟨w.heap.size, k, none⟩ = some (.int .u8 (s.getD k 0).toNat) := fun hlt => by
      rw [LowW.cell hrow.out hlt]; simp [hlt]
    have hfx : k < s.length → wr.frozen? ⟨w.heap.size, k, none⟩ = false := fun hlt => LowW.frozen hrow.out hlt
    go_wp2
    · have hlt : k < s.length := by assumption
      have h1 : (65 : Int) ≤ s[k].toNat := by assumption
      have h2 : (s[k].toNat : Int) ≤ 90 := by assumption
      go_roundw
      case rel => exact ⟨k + 1, by omega, by go_num, by rw [low_add _ h1 h2]; exact hrow.out.set hlt⟩
      case measure => simp [RowKit.intOf]; omega
    · have hlt : k < s.length := by assumption
      have h2 : (90 : Int) < s[k].toNat := by assumption
      go_roundw
      case rel => exact ⟨k + 1, by omega, by go_num, hrow.out.same hlt (low_same _ (by omega))⟩
      case measure => simp [RowKit.intOf]; omega
    · have hlt : k < s.length := by assumption
      have h2 : ¬ (65 : Int) ≤ s[k].toNat := by assumption
      go_roundw
      case rel => exact ⟨k + 1, by omega, by go_num, hrow.out.same hlt (low_same _ (by omega))⟩
      case measure => simp [RowKit.intOf]; omega
    · obtain rfl : k = s.length := by
        have : ¬ k < s.length := by assumption
        omega
      rw [hrow.out.back cp]
      simp only [Result.andThen]
      rw [Oper.upon_value]
      go_wp2
      go_ret
      exact ⟨rfl, hrow.out.below⟩

theorem pure123 {s : List UInt8} (h : s.length ≤ maxLenN) : Pure Tryz.prog 123 [.str s] (.str (lowS s)) := by
  intro m w vals hm hg hx
  obtain ⟨_, rfl, hx1⟩ := DRt_str hx
  obtain rfl := DRt_nil hx1
  refine (lower_walk s w h).mono ?_
  rintro e w' ⟨rfl, h1⟩
  exact ⟨_, rfl, h1, by simp only [DR]⟩
theorem pure154 {s : List UInt8} (h : s.length ≤ maxLenN) : Pure Tryz.prog 154 [.str s] (.str (lowS s)) := by
  intro m w vals hm hg hx
  obtain ⟨_, rfl, hx1⟩ := DRt_str hx
  obtain rfl := DRt_nil hx1
  refine (lower2_walk s w h).mono ?_
  rintro e w' ⟨rfl, h1⟩
  exact ⟨_, rfl, h1, by simp only [DR]⟩
section
variable {args : List AV} {bs : List Box} {r : DV} {bs' : List Box}
theorem sound123 (h : pLower args bs = some (r, bs')) : Sound Tryz.prog 123 args bs r bs' := by
  unfold pLower at h
  split at h
  case h_2 => cases h
  split at h
  case isFalse => cases h
  rename_i hc
  cases h
  exact (pure123 hc).sound
theorem sound154 (h : pLower args bs = some (r, bs')) : Sound Tryz.prog 154 args bs r bs' := by
  unfold pLower at h
  split at h
  case h_2 => cases h
  split at h
  case isFalse => cases h
  rename_i hc
  cases h
  exact (pure154 hc).sound

theorem enters44 : Enters Tryz.prog 44 := ⟨_, Tryz.func44, by kernel_rfl, by kernel_rfl⟩
theorem enters85 : Enters Tryz.prog 85 := ⟨_, Tryz.func85, by kernel_rfl, by kernel_rfl⟩
theorem enters86 : Enters Tryz.prog 86 := ⟨_, Tryz.func86, by kernel_rfl, by kernel_rfl⟩
theorem enters136 : Enters Tryz.prog 136 := ⟨_, Tryz.func136, by kernel_rfl, by kernel_rfl⟩
theorem enters93 : Enters Tryz.prog 93 := ⟨_, Tryz.func93, by kernel_rfl, by kernel_rfl⟩
theorem enters94 : Enters Tryz.prog 94 := ⟨_, Tryz.func94, by kernel_rfl, by kernel_rfl⟩
theorem enters109 : Enters Tryz.prog 109 := ⟨_, Tryz.func109, by kernel_rfl, by kernel_rfl⟩
theorem enters141 : Enters Tryz.prog 141 := ⟨_, Tryz.func141, by kernel_rfl, by kernel_rfl⟩
theorem enters143 : Enters Tryz.prog 143 := ⟨_, Tryz.func143, by kernel_rfl, by kernel_rfl⟩
theorem enters201 : Enters Tryz.prog 201 := ⟨_, Tryz.func201, by kernel_rfl, by kernel_rfl⟩
theorem enters209 : Enters Tryz.prog 209 := ⟨_, Tryz.func209, by kernel_rfl, by kernel_rfl⟩
theorem enters235 : Enters Tryz.prog 235 := ⟨_, Tryz.func235, by kernel_rfl, by kernel_rfl⟩
theorem enters123 : Enters Tryz.prog 123 := ⟨_, Tryz.func123, by kernel_rfl, by kernel_rfl⟩
theorem enters154 : Enters Tryz.prog 154 := ⟨_, Tryz.func154, by kernel_rfl, by kernel_rfl⟩
theorem prims_ok (f : FuncId) (p : List AV → List Box → Option (DV × List Box)) (hf : prims f = some p) (h : p args bs = some (r, bs')) : Enters Tryz.prog f ∧ Sound Tryz.prog f args bs r bs' := by
  unfold prims at hf
  split at hf
  all_goals first | (cases hf; done) | skip
  all_goals cases hf
  · exact ⟨enters44, sound44 h⟩
  · exact ⟨enters85, sound85 h⟩
  · exact ⟨enters86, sound86 h⟩
  · exact ⟨enters136, sound136 h⟩
  · exact ⟨enters93, sound93 h⟩
  · exact ⟨enters94, sound94 h⟩
  · exact ⟨enters109, sound109 h⟩
  · exact ⟨enters141, sound141 h⟩
  · exact ⟨enters143, sound143 h⟩
  · exact ⟨enters201, sound201 h⟩
  · exact ⟨enters209, sound209 h⟩
  · exact ⟨enters235, sound235 h⟩
  · exact ⟨enters123, sound123 h⟩
  · exact ⟨enters154, sound154 h⟩
  all_goals cases h
end
theorem mixed_ok : Tryz.prog.follows .mixedOrders = true := by kernel_rfl
theorem tab0_ok : TabOK Tryz.prog (Tab.of Tryz.prog prims) := Tab.of_ok mixed_ok fun f p args bs r bs' hf h _ => prims_ok f p hf h
end Go.Abs
