/- Slices that came in, as lists of rows of cells; rows that the call owns, beside maps. -/
import Derived.Test.YtgmgofcclddkiaaMap
import Derived.Test.YtgmgofcclddkiaaRng
import Derived.Maps.AppendAt
import Derived.SliceStrings
import Derived.Deep.Grids
import Derived.Deep.Slices
import Derived.Deep.Strs
import Derived.ProofKit
import Derived.Lib.Hide
import Derived.Test.YtgmgofcclddkiaaProg
namespace Go.Proofs.Ytgmgofcclddkiaa
open Go.RowKit Go.Maps Go.WideShapes

/-- a slice of one-cell elements that lies in memory -/
def CellsAt (w : World) (v : Value) (vs : List Value) : Prop :=
  vs.length ≤ maxLen ∧ ∃ a cap, v = .slice a vs.length cap ∧ (0 < vs.length → ∃ b o, a = some ⟨b, o, none⟩ ∧ b < w.heap.size ∧ ∀ j, j < vs.length → w.cell? ⟨b, o + j, none⟩ = vs[j]?)

theorem cell_lt {w : World} {a : Addr} {v : Value} (h : w.cell? a = some v) : a.block < w.heap.size := by
  unfold World.cell? at h
  split at h
  · rename_i hb; exact (Array.getElem?_eq_some_iff.1 hb).1
  · cases h
theorem add_none {b o j : Nat} : (Addr.add ⟨b, o, none⟩ j) = ⟨b, o + j, none⟩ := by
  by_cases h0 : j = 0
  · subst h0; simp [Addr.add]
  · simp [Addr.add, h0]

/-- what a slice's reading gives, for elements of one cell -/
theorem CellsAt.mk {w : World} {x : Addr} {len cap : Nat} {vs : List Value} (hl : len ≤ cap) (hm : cap ≤ maxLen) (hn : vs.length = len) (hc : ∀ j, j < len → w.cell? (x.add j) = vs[j]?) : CellsAt w (.slice (some x) len cap) vs := by
  subst hn
  refine ⟨by omega, _, _, rfl, fun h0 => ?_⟩
  obtain ⟨b, o, spot⟩ := x
  have h := hc 0 h0
  have he : vs[0]? = some vs[0] := by simp [h0]
  rw [he] at h
  have hspot : spot = none := by simpa [Addr.add] using World.cell?_spot h
  subst hspot
  have hb := cell_lt h
  refine ⟨b, o, rfl, by simpa [Addr.add] using hb, fun j hj => ?_⟩
  have := hc j hj
  rw [add_none] at this; exact this

section
variable {H : Type} {enc : TypeId × Value → H} {w : World} {base : Nat} {held : Bool} {a0 : Option Addr} {len cap : Nat} {y : DataW H × List MemPlace} {t e : TypeId}
theorem open_bools_at (ht : Try.prog.underlying t = some (.slice e)) (he : Try.prog.underlying e = some .bool) (hc : Try.prog.cellsOf e = 1) {fuel : Nat}
    (h : DataW.trod enc Try.prog w base (fun _ => true) held fuel t (Value.slice a0 len cap).cells.toList = some y) : ∃ xs : List Bool, CellsAt w (.slice a0 len cap) (xs.map Value.bool) := by
  rcases Deep.open_bools ht he hc h with ⟨hcs, _⟩ | ⟨x, l, c, Bf, hcs, _, hl, hm, _, hcell⟩
  · simp [Value.cells] at hcs
    obtain ⟨rfl, rfl, rfl⟩ := hcs
    exact ⟨[], ⟨Nat.zero_le _, none, 0, rfl, fun h => absurd h (by simp)⟩⟩
  · simp [Value.cells] at hcs
    obtain ⟨rfl, rfl, rfl⟩ := hcs
    refine ⟨(List.range len).map Bf, CellsAt.mk hl hm (by simp) (fun j hj => ?_)⟩
    rw [hcell j (by omega)]
    simp [hj]
end

def blockOf (v : Value) : List Nat := v.ownBlock.toList
theorem row_lt {w : World} {base : Nat} {e : TypeId} {size : Nat} {v : Value} {n : Nat} {xs : List Value} (h : w.ownsRow base e size v n xs) : ∀ j ∈ blockOf v, base ≤ j ∧ j < w.heap.size := by
  intro j hj
  exact h.lt j (by simpa [blockOf] using hj)
theorem row_ne_map {w : World} {base : Nat} {e : TypeId} {size : Nat} {v : Value} {n : Nat} {xs : List Value} (h : w.ownsRow base e size v n xs) {b : Nat} {es : Array MapEntry} {c : Nat} (hm : w.heap[b]? = some (.map es c)) : some b ≠ v.ownBlock := by
  rcases h.2 with ⟨rfl, _⟩ | ⟨g, cap, cur, rfl, _, hg, _⟩
  · simp [Value.ownBlock]
  · simp only [Value.ownBlock, ne_eq, Option.some.injEq]
    intro e; subst e; rw [hg] at hm; cases hm
/-- a row stays while its block does (as a fact on the block) -/
theorem row_keep {w w' : World} {base : Nat} {e : TypeId} {size : Nat} {v : Value} {n : Nat} {xs : List Value} (h : w.ownsRow base e size v n xs) (hs : ∀ j ∈ blockOf v, w'.heap[j]? = w.heap[j]?) : w'.ownsRow base e size v n xs := by
  obtain ⟨h1, h2⟩ := h
  refine ⟨h1, h2.imp id ?_⟩
  rintro ⟨g, cap, cur, rfl, b, c, d⟩
  exact ⟨g, cap, cur, rfl, b, (hs g (by simp [blockOf, Value.ownBlock])).trans c, d⟩
theorem row_turned {P : Program} {k : TypeId} {w w' : World} {base : Nat} {e : TypeId} {size : Nat} {v : Value} {n : Nat} {xs : List Value} {b m : Nat} {g : Lit → Option Value}
    (h : w.ownsRow base e size v n xs) (hm : MapIs P k w b m g) (ht : w.mapTurned w' b) : w'.ownsRow base e size v n xs :=
  row_keep h (fun j hj => mapTurned_heap_ne ht (fun e => by
    subst e
    obtain ⟨_, _, h1⟩ := hm.isObj
    exact row_ne_map h h1 (by simpa [blockOf, eq_comm] using hj)))
theorem size_turned {w w' : World} {B b : Nat} (h : B ≤ w.heap.size) (ht : w.mapTurned w' b) : B ≤ w'.heap.size := by
  rw [mapTurned_size ht]; exact h
/-- a map stays while a row grows -/
theorem MapIs.grown {P : Program} {k : TypeId} {w w' : World} {base : Nat} {e : TypeId} {size : Nat} {v : Value} {n : Nat} {xs : List Value} {b m : Nat} {g : Lit → Option Value}
    (hm : MapIs P k w b m g) (h : w.ownsRow base e size v n xs) (hg : w.grownBy w' v.ownBlock) : MapIs P k w' b m g := by
  obtain ⟨_, _, h1⟩ := hm.isObj
  exact hm.block (hg.block b hm.lt (row_ne_map h h1))
/-- a slice of elements of k cells that lies in memory -/
def RowsAt (w : World) (v : Value) (k : Nat) (rows : List (List Value)) : Prop :=
  rows.length ≤ maxLen ∧ ∃ a cap, v = .slice a rows.length cap ∧ (0 < rows.length → ∃ b o, a = some ⟨b, o, none⟩ ∧ ∀ j (hj : j < rows.length), rows[j].length = k ∧ ∀ f, f < k → b < w.heap.size ∧ w.cell? ⟨b, o + (j * k + f), none⟩ = rows[j][f]?)

theorem i64b {x : Int} (h : (Lit.int .i64 x).wf = true) : -9223372036854775808 ≤ x ∧ x ≤ 9223372036854775807 := by
  simp [Lit.wf, IntKind.min, IntKind.max, IntKind.bits, IntKind.signed] at h
  omega
theorem u8b {x : Int} (h : (Lit.int .u8 x).wf = true) : 0 ≤ x ∧ x ≤ 255 := by
  simp [Lit.wf, IntKind.min, IntKind.max, IntKind.bits, IntKind.signed] at h
  omega
theorem choose_rows {n : Nat} {p : Nat → List Value → Prop} (h : ∀ i, i < n → ∃ r, p i r) : ∃ rows : List (List Value), rows.length = n ∧ ∀ i (hi : i < rows.length), p i rows[i] := by
  induction n with
  | zero => exact ⟨[], rfl, fun i hi => absurd hi (by simp)⟩
  | succ n ih =>
    obtain ⟨rows, hl, hr⟩ := ih (fun i hi => h i (by omega))
    obtain ⟨r, hr'⟩ := h n (by omega)
    refine ⟨rows ++ [r], by simp [hl], fun i hi => ?_⟩
    by_cases hin : i < rows.length
    · rw [List.getElem_append_left hin]; exact hr i hin
    · have : i = n := by simp at hi; omega
      subst this
      rw [List.getElem_append_right (by omega)]
      simpa [hl] using hr'

section
variable {P : Program} {H : Type} {enc : TypeId × Value → H} {w : World} {base : Nat} {held : Bool} {a0 : Option Addr} {len cap : Nat} {y : DataW H × List MemPlace} {t e : TypeId}
theorem open_rows_at (k : Nat) (hk : 0 < k) (ht : P.underlying t = some (.slice e)) (hc : P.cellsOf e = k) {E : List Value → Prop}
    (hE : ∀ (cs : List Value) (n : Nat) (x : DataW H × List MemPlace), DataW.trod enc P w base (fun _ => true) held n e cs = some x → E cs) {fuel : Nat}
    (h : DataW.trod enc P w base (fun _ => true) held fuel t (Value.slice a0 len cap).cells.toList = some y) : ∃ rows, RowsAt w (.slice a0 len cap) k rows ∧ ∀ r ∈ rows, E r := by
  rcases Deep.open_slice ht h with ⟨hcs, _⟩ | ⟨x, l, c, m, n, D, Pl, hcs, _, hl, hm, hmm, _, hcell⟩
  · simp [Value.cells] at hcs
    obtain ⟨rfl, rfl, rfl⟩ := hcs
    exact ⟨[], ⟨Nat.zero_le _, none, 0, rfl, fun h => absurd h (by simp)⟩, by simp⟩
  · simp [Value.cells] at hcs
    obtain ⟨rfl, rfl, rfl⟩ := hcs
    simp only [if_true] at hmm
    rw [hc] at hcell
    obtain ⟨rows, hrl, hrows⟩ := choose_rows (n := len) (p := fun i r => w.cells? base (x.add (i * k)) k = some r ∧ E r) (fun i hi => by
      obtain ⟨cs', h1, h2⟩ := hcell i (by omega)
      exact ⟨cs', h1, hE cs' n _ h2⟩)
    subst hrl
    refine ⟨rows, ⟨by omega, _, _, rfl, fun h0 => ?_⟩, fun r hr => ?_⟩
    · obtain ⟨b, o, spot⟩ := x
      have hspot : spot = none := by
        obtain ⟨_, hlen0, hc0⟩ := World.cells?_some (hrows 0 h0).1
        have := hc0 0 hk
        have he : rows[0][0]? = some (rows[0][0]'(by omega)) := List.getElem?_eq_getElem (by omega)
        rw [he] at this
        simpa [Addr.add] using World.cell?_spot this
      subst hspot
      refine ⟨b, o, rfl, fun j hj => ?_⟩
      obtain ⟨_, hlen, hcj⟩ := World.cells?_some (hrows j hj).1
      refine ⟨hlen, fun f hf => ?_⟩
      have := hcj f hf
      rw [add_none, add_none] at this
      have he : rows[j][f]? = some (rows[j][f]'(by omega)) := List.getElem?_eq_getElem (by omega)
      have e1 : o + j * k + f = o + (j * k + f) := by omega
      rw [e1] at this
      refine ⟨?_, this⟩
      rw [he] at this
      exact cell_lt this
    · obtain ⟨i, hi, rfl⟩ := List.mem_iff_getElem.1 hr
      exact (hrows i hi).2
end

theorem cell_of {w : World} {b : Nat} {xs : Array Value} {t : TypeId} (h : w.heap[b]? = some (.cells xs t (0, 0))) (o : Nat) : w.cell? ⟨b, o, none⟩ = xs[o]? := by
  simp [World.cell?, h]
theorem frozen_of {w : World} {b : Nat} {xs : Array Value} {t : TypeId} (h : w.heap[b]? = some (.cells xs t (0, 0))) (o : Nat) : w.frozen? ⟨b, o, none⟩ = false := by
  simp [World.frozen?, h]
theorem row_form {w : World} {base : Nat} {e : TypeId} {size : Nat} {v : Value} {n : Nat} {xs : List Value} (h : w.ownsRow base e size v n xs) : ∃ a cap, v = .slice a n cap := by
  rcases h.2 with ⟨rfl, rfl⟩ | ⟨g, cap, cur, rfl, _⟩
  · exact ⟨none, 0, rfl⟩
  · exact ⟨_, cap, rfl⟩
/-- an owned row of one-cell elements: its block, and each cell -/
theorem row_cells {w : World} {base : Nat} {e : TypeId} {v : Value} {n : Nat} {xs : List Value} (h : w.ownsRow base e 1 v n xs) (hn : 0 < n) :
    ∃ g cap, v = .slice (some ⟨g, 0, none⟩) n cap ∧ base ≤ g ∧ g < w.heap.size ∧ ∀ j, j < n → w.cell? ⟨g, j, none⟩ = xs[j]? := by
  obtain ⟨hl, h⟩ := h
  rcases h with ⟨_, rfl⟩ | ⟨g, cap, cur, rfl, hb, hg, h1, h2, h3, h4⟩
  · omega
  · refine ⟨g, cap, rfl, hb, (Array.getElem?_eq_some_iff.1 hg).1, fun j hj => ?_⟩
    rw [cell_of hg, ← h4, List.getElem?_take]
    simp [hj]
end Go.Proofs.Ytgmgofcclddkiaa
