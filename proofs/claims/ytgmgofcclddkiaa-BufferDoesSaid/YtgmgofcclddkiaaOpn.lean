/- Slices that came in, as lists; a slice of the law's own that grows beside the buffer. -/
import Derived.Test.YtgmgofcclddkiaaAw2
import Derived.Maps.AppendAt
import Derived.SliceStrings
import Derived.Deep.Grids
import Derived.ProofKit
namespace Go.Proofs.Ytgmgofcclddkiaa
open Go.RowKit Go.Maps Go.WideShapes

/-- a slice of one-cell elements that lies in memory -/
def CellsAt (w : World) (v : Value) (vs : List Value) : Prop :=
  vs.length ≤ maxLen ∧ ∃ a cap, v = .slice a vs.length cap ∧ (0 < vs.length → ∃ b o, a = some ⟨b, o, none⟩ ∧ b < w.heap.size ∧ ∀ j, j < vs.length → w.cell? ⟨b, o + j, none⟩ = vs[j]?)

theorem cell_lt {w : World} {a : Addr} {v : Value} (h : w.cell? a = some v) : a.block < w.heap.size := by
  unfold World.cell? at h
  split at h
  · rename_i hb; exact (Array.getElem?_eq_some_iff.1 hb).1
  · cases h
theorem add_none {b o j : Nat} : (Addr.add ⟨b, o, none⟩ j) = ⟨b, o + j, none⟩ := by
  by_cases h0 : j = 0
  · subst h0; simp [Addr.add]
  · simp [Addr.add, h0]

/-- what a slice's reading gives, for elements of one cell -/
theorem CellsAt.mk {w : World} {x : Addr} {len cap : Nat} {vs : List Value} (hl : len ≤ cap) (hm : cap ≤ maxLen) (hn : vs.length = len) (hc : ∀ j, j < len → w.cell? (x.add j) = vs[j]?) : CellsAt w (.slice (some x) len cap) vs := by
  subst hn
  refine ⟨by omega, _, _, rfl, fun h0 => ?_⟩
  obtain ⟨b, o, spot⟩ := x
  have h := hc 0 h0
  have he : vs[0]? = some vs[0] := by simp [h0]
  rw [he] at h
  have hspot : spot = none := by simpa [Addr.add] using World.cell?_spot h
  subst hspot
  have hb := cell_lt h
  refine ⟨b, o, rfl, by simpa [Addr.add] using hb, fun j hj => ?_⟩
  have := hc j hj
  rw [add_none] at this; exact this

section
variable {H : Type} {enc : TypeId × Value → H} {w : World} {base : Nat} {held : Bool} {a0 : Option Addr} {len cap : Nat} {y : DataW H × List MemPlace} {t e : TypeId}
theorem open_strs_at (ht : Try.prog.underlying t = some (.slice e)) (he : Try.prog.underlying e = some .string) (hc : Try.prog.cellsOf e = 1) {fuel : Nat}
    (h : DataW.trod enc Try.prog w base (fun _ => true) held fuel t (Value.slice a0 len cap).cells.toList = some y) : ∃ xs : List ByteArray, CellsAt w (.slice a0 len cap) (xs.map Value.string) ∧ ∀ s ∈ xs, s.size ≤ maxLen := by
  rcases Go.ChangeShapes.open_strings ht he hc h with ⟨hcs, _⟩ | ⟨x, l, c, ss, hcs, _, hl, hm, hz, _, hcell, hws⟩
  · simp [Value.cells] at hcs
    obtain ⟨rfl, rfl, rfl⟩ := hcs
    exact ⟨[], ⟨Nat.zero_le _, none, 0, rfl, fun h => absurd h (by simp)⟩, by simp⟩
  · simp [Value.cells] at hcs
    obtain ⟨rfl, rfl, rfl⟩ := hcs
    simp at hz
    refine ⟨ss.take len, CellsAt.mk hl hm (by simp; omega) (fun j hj => ?_), fun s hs => hws s (List.mem_of_mem_take hs)⟩
    rw [hcell j (by omega), List.getElem?_map, List.getElem?_take]
    simp [hj, List.getD_eq_getElem?_getD, List.getElem?_eq_getElem (show j < ss.length by omega)]
theorem open_bools_at (ht : Try.prog.underlying t = some (.slice e)) (he : Try.prog.underlying e = some .bool) (hc : Try.prog.cellsOf e = 1) {fuel : Nat}
    (h : DataW.trod enc Try.prog w base (fun _ => true) held fuel t (Value.slice a0 len cap).cells.toList = some y) : ∃ xs : List Bool, CellsAt w (.slice a0 len cap) (xs.map Value.bool) := by
  rcases Deep.open_bools ht he hc h with ⟨hcs, _⟩ | ⟨x, l, c, Bf, hcs, _, hl, hm, _, hcell⟩
  · simp [Value.cells] at hcs
    obtain ⟨rfl, rfl, rfl⟩ := hcs
    exact ⟨[], ⟨Nat.zero_le _, none, 0, rfl, fun h => absurd h (by simp)⟩⟩
  · simp [Value.cells] at hcs
    obtain ⟨rfl, rfl, rfl⟩ := hcs
    refine ⟨(List.range len).map Bf, CellsAt.mk hl hm (by simp) (fun j hj => ?_)⟩
    rw [hcell j (by omega)]
    simp [hj]
end

/-! ### a slice of the law's own, beside the buffer -/
section
variable {B : Nat} {w0 w w' : World} {p each room : Nat} {L : Things} {dr : Int} {N : List Nat} {v v' : Value}
theorem BufAt.appended (h : BufAt B w0 w p each room L dr (blockOf v ++ N)) (hB : ∀ j ∈ blockOf v, B ≤ j) (hg : w.grownBy w' v.ownBlock) (hloc : v'.ownBlock = v.ownBlock ∨ v'.ownBlock = some w.heap.size) (hlt : ∀ k, v'.ownBlock = some k → k < w'.heap.size) :
    BufAt B w0 w' p each room L dr (blockOf v' ++ N) := by
  have hbel : Below B w w' := (Below.refl _ _).grown hg h.size (fun k e => hB k (by simp [blockOf, e]))
  have hk : ∀ j, j < w.heap.size → j ∉ blockOf v ++ N → w'.heap[j]? = w.heap[j]? := fun j hj hn => hg.block j hj (fun e => hn (by simp [blockOf, ← e]))
  rcases hloc with e | e
  · have := h.own hbel hk
    unfold blockOf at this ⊢
    rw [e]; exact this
  · have hl := hlt _ e
    have := h.fresh hbel hk (j := w.heap.size) (Nat.le_refl _) hl
    refine this.sub (fun j hj => ?_)
    rcases List.mem_append.1 hj with hj | hj
    · simp [blockOf, e] at hj; simp [hj]
    · exact List.mem_cons_of_mem _ (List.mem_append.2 (.inr hj))
end

theorem row_lt {w : World} {base : Nat} {e : TypeId} {size : Nat} {v : Value} {n : Nat} {xs : List Value} (h : w.ownsRow base e size v n xs) : ∀ j ∈ blockOf v, base ≤ j ∧ j < w.heap.size := by
  intro j hj
  exact h.lt j (by simpa [blockOf] using hj)
theorem row_ne_map {w : World} {base : Nat} {e : TypeId} {size : Nat} {v : Value} {n : Nat} {xs : List Value} (h : w.ownsRow base e size v n xs) {b : Nat} {es : Array MapEntry} {c : Nat} (hm : w.heap[b]? = some (.map es c)) : some b ≠ v.ownBlock := by
  rcases h.2 with ⟨rfl, _⟩ | ⟨g, cap, cur, rfl, _, hg, _⟩
  · simp [Value.ownBlock]
  · simp only [Value.ownBlock, ne_eq, Option.some.injEq]
    intro e; subst e; rw [hg] at hm; cases hm
/-- a row stays while its block does (as a fact on the block) -/
theorem row_keep {w w' : World} {base : Nat} {e : TypeId} {size : Nat} {v : Value} {n : Nat} {xs : List Value} (h : w.ownsRow base e size v n xs) (hs : ∀ j ∈ blockOf v, w'.heap[j]? = w.heap[j]?) : w'.ownsRow base e size v n xs := by
  obtain ⟨h1, h2⟩ := h
  refine ⟨h1, h2.imp id ?_⟩
  rintro ⟨g, cap, cur, rfl, b, c, d⟩
  exact ⟨g, cap, cur, rfl, b, (hs g (by simp [blockOf, Value.ownBlock])).trans c, d⟩
theorem row_turned {P : Program} {k : TypeId} {w w' : World} {base : Nat} {e : TypeId} {size : Nat} {v : Value} {n : Nat} {xs : List Value} {b m : Nat} {g : Lit → Option Value}
    (h : w.ownsRow base e size v n xs) (hm : MapIs P k w b m g) (ht : w.mapTurned w' b) : w'.ownsRow base e size v n xs :=
  row_keep h (fun j hj => mapTurned_heap_ne ht (fun e => by
    subst e
    obtain ⟨_, _, h1⟩ := hm.isObj
    exact row_ne_map h h1 (by simpa [blockOf, eq_comm] using hj)))
theorem size_turned {w w' : World} {B b : Nat} (h : B ≤ w.heap.size) (ht : w.mapTurned w' b) : B ≤ w'.heap.size := by
  rw [mapTurned_size ht]; exact h
/-- a map stays while a row grows -/
theorem MapIs.grown {P : Program} {k : TypeId} {w w' : World} {base : Nat} {e : TypeId} {size : Nat} {v : Value} {n : Nat} {xs : List Value} {b m : Nat} {g : Lit → Option Value}
    (hm : MapIs P k w b m g) (h : w.ownsRow base e size v n xs) (hg : w.grownBy w' v.ownBlock) : MapIs P k w' b m g := by
  obtain ⟨_, _, h1⟩ := hm.isObj
  exact hm.block (hg.block b hm.lt (row_ne_map h h1))
end Go.Proofs.Ytgmgofcclddkiaa
