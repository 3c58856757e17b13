/- Slices of structs that came in, as lists of rows of cells. -/
import Derived.Test.YtgmgofcclddkiaaOpn
import Derived.Deep.Slices
import Derived.Deep.Strs
namespace Go.Proofs.Ytgmgofcclddkiaa
open Go.RowKit Go.Maps Go.WideShapes

/-- a slice of elements of k cells that lies in memory -/
def RowsAt (w : World) (v : Value) (k : Nat) (rows : List (List Value)) : Prop :=
  rows.length ≤ maxLen ∧ ∃ a cap, v = .slice a rows.length cap ∧ (0 < rows.length → ∃ b o, a = some ⟨b, o, none⟩ ∧ ∀ j (hj : j < rows.length), rows[j].length = k ∧ ∀ f, f < k → b < w.heap.size ∧ w.cell? ⟨b, o + (j * k + f), none⟩ = rows[j][f]?)

theorem i64b {x : Int} (h : (Lit.int .i64 x).wf = true) : -9223372036854775808 ≤ x ∧ x ≤ 9223372036854775807 := by
  simp [Lit.wf, IntKind.min, IntKind.max, IntKind.bits, IntKind.signed] at h
  omega
theorem u8b {x : Int} (h : (Lit.int .u8 x).wf = true) : 0 ≤ x ∧ x ≤ 255 := by
  simp [Lit.wf, IntKind.min, IntKind.max, IntKind.bits, IntKind.signed] at h
  omega
theorem choose_rows {n : Nat} {p : Nat → List Value → Prop} (h : ∀ i, i < n → ∃ r, p i r) : ∃ rows : List (List Value), rows.length = n ∧ ∀ i (hi : i < rows.length), p i rows[i] := by
  induction n with
  | zero => exact ⟨[], rfl, fun i hi => absurd hi (by simp)⟩
  | succ n ih =>
    obtain ⟨rows, hl, hr⟩ := ih (fun i hi => h i (by omega))
    obtain ⟨r, hr'⟩ := h n (by omega)
    refine ⟨rows ++ [r], by simp [hl], fun i hi => ?_⟩
    by_cases hin : i < rows.length
    · rw [List.getElem_append_left hin]; exact hr i hin
    · have : i = n := by simp at hi; omega
      subst this
      rw [List.getElem_append_right (by omega)]
      simpa [hl] using hr'

section
variable {P : Program} {H : Type} {enc : TypeId × Value → H} {w : World} {base : Nat} {held : Bool} {a0 : Option Addr} {len cap : Nat} {y : DataW H × List MemPlace} {t e : TypeId}
theorem open_rows_at (k : Nat) (hk : 0 < k) (ht : P.underlying t = some (.slice e)) (hc : P.cellsOf e = k) {E : List Value → Prop}
    (hE : ∀ (cs : List Value) (n : Nat) (x : DataW H × List MemPlace), DataW.trod enc P w base (fun _ => true) held n e cs = some x → E cs) {fuel : Nat}
    (h : DataW.trod enc P w base (fun _ => true) held fuel t (Value.slice a0 len cap).cells.toList = some y) : ∃ rows, RowsAt w (.slice a0 len cap) k rows ∧ ∀ r ∈ rows, E r := by
  rcases Deep.open_slice ht h with ⟨hcs, _⟩ | ⟨x, l, c, m, n, D, Pl, hcs, _, hl, hm, hmm, _, hcell⟩
  · simp [Value.cells] at hcs
    obtain ⟨rfl, rfl, rfl⟩ := hcs
    exact ⟨[], ⟨Nat.zero_le _, none, 0, rfl, fun h => absurd h (by simp)⟩, by simp⟩
  · simp [Value.cells] at hcs
    obtain ⟨rfl, rfl, rfl⟩ := hcs
    simp only [if_true] at hmm
    rw [hc] at hcell
    obtain ⟨rows, hrl, hrows⟩ := choose_rows (n := len) (p := fun i r => w.cells? base (x.add (i * k)) k = some r ∧ E r) (fun i hi => by
      obtain ⟨cs', h1, h2⟩ := hcell i (by omega)
      exact ⟨cs', h1, hE cs' n _ h2⟩)
    subst hrl
    refine ⟨rows, ⟨by omega, _, _, rfl, fun h0 => ?_⟩, fun r hr => ?_⟩
    · obtain ⟨b, o, spot⟩ := x
      have hspot : spot = none := by
        obtain ⟨_, hlen0, hc0⟩ := World.cells?_some (hrows 0 h0).1
        have := hc0 0 hk
        have he : rows[0][0]? = some (rows[0][0]'(by omega)) := List.getElem?_eq_getElem (by omega)
        rw [he] at this
        simpa [Addr.add] using World.cell?_spot this
      subst hspot
      refine ⟨b, o, rfl, fun j hj => ?_⟩
      obtain ⟨_, hlen, hcj⟩ := World.cells?_some (hrows j hj).1
      refine ⟨hlen, fun f hf => ?_⟩
      have := hcj f hf
      rw [add_none, add_none] at this
      have he : rows[j][f]? = some (rows[j][f]'(by omega)) := List.getElem?_eq_getElem (by omega)
      have e1 : o + j * k + f = o + (j * k + f) := by omega
      rw [e1] at this
      refine ⟨?_, this⟩
      rw [he] at this
      exact cell_lt this
    · obtain ⟨i, hi, rfl⟩ := List.mem_iff_getElem.1 hr
      exact (hrows i hi).2
end

/-! ### acts -/
structure ActD where
  kind : Int
  i : Int
  text : ByteArray
def ActD.row (x : ActD) : List Value := [.int .i64 x.kind, .int .i64 x.i, .string x.text]
/-- an act that came in -/
def ActD.ok (x : ActD) : Prop := (-9223372036854775808 ≤ x.kind ∧ x.kind ≤ 9223372036854775807) ∧ (-9223372036854775808 ≤ x.i ∧ x.i ≤ 9223372036854775807) ∧ x.text.size ≤ maxLen
/-- a slice of acts -/
def ActsAt (w : World) (v : Value) (xs : List ActD) : Prop := RowsAt w v 3 (xs.map ActD.row)
def ActsIn (w : World) (v : Value) : Prop := ∃ xs, ActsAt w v xs ∧ ∀ x ∈ xs, x.ok

theorem cells32 : Try.prog.cellsOf 32 = 3 := by kernel_rfl
theorem cells3 : Try.prog.cellsOf 3 = 1 := by kernel_rfl
theorem cells9 : Try.prog.cellsOf 9 = 1 := by kernel_rfl
theorem open_acts_at {H : Type} {enc : TypeId × Value → H} {w : World} {base : Nat} {held : Bool} {a0 : Option Addr} {len cap : Nat} {y : DataW H × List MemPlace} {fuel : Nat}
    (h : DataW.trod enc Try.prog w base (fun _ => true) held fuel 22 (Value.slice a0 len cap).cells.toList = some y) : ActsIn w (.slice a0 len cap) := by
  obtain ⟨rows, hr, hE⟩ := open_rows_at 3 (by omega) Try.underlying22 cells32 (E := fun cs => ∃ x : ActD, cs = x.row ∧ x.ok) (fun cs n x hx => by
    obtain ⟨y0, y1, y2, n', _, hlen, h0, h1, h2⟩ := Deep.trod_struct3 Try.underlying32 hx
    simp only [cells3, cells9] at h0 h1 h2
    obtain ⟨k, e0, _, w0⟩ := DataW.trod_int Try.underlying3 h0
    obtain ⟨i, e1, _, w1⟩ := DataW.trod_int Try.underlying3 h1
    obtain ⟨s, e2, _, w2⟩ := DataW.trod_string Try.underlying9 h2
    rw [cells32] at hlen
    refine ⟨⟨k, i, s⟩, ?_, i64b w0, i64b w1, w2⟩
    match cs, hlen with
    | [c0, c1, c2], _ =>
      simp at e0 e1 e2
      subst e0 e1 e2; rfl) h
  have : ∃ xs : List ActD, rows = xs.map ActD.row ∧ ∀ x ∈ xs, x.ok := by
    clear hr h
    induction rows with
    | nil => exact ⟨[], rfl, by simp⟩
    | cons r rows ih =>
      obtain ⟨xs, e, ho⟩ := ih (fun r hr => hE r (by simp [hr]))
      obtain ⟨x, rfl, hx⟩ := hE r (by simp)
      exact ⟨x :: xs, by rw [e]; rfl, fun z hz => by
        rcases List.mem_cons.1 hz with rfl | hz
        · exact hx
        · exact ho z hz⟩
  obtain ⟨xs, rfl, ho⟩ := this
  exact ⟨xs, hr, ho⟩
/-- the cells of an act that came in -/
theorem ActsAt.cells {w : World} {v : Value} {xs : List ActD} (h : ActsAt w v xs) : ∃ a cap, v = .slice a xs.length cap ∧ (0 < xs.length → ∃ b o, a = some ⟨b, o, none⟩ ∧ ∀ j x, xs[j]? = some x → b < w.heap.size ∧
    w.cell? ⟨b, o + j * 3, none⟩ = some (.int .i64 x.kind) ∧ w.cell? ⟨b, o + j * 3 + 1, none⟩ = some (.int .i64 x.i) ∧ w.cell? ⟨b, o + j * 3 + 2, none⟩ = some (.string x.text)) := by
  obtain ⟨hl, a, cap, rfl, hc⟩ := h
  simp only [List.length_map] at hc ⊢
  refine ⟨a, cap, rfl, fun h0 => ?_⟩
  obtain ⟨b, o, rfl, hc2⟩ := hc h0
  refine ⟨b, o, rfl, fun j x hx => ?_⟩
  have hj : j < xs.length := by
    rcases Nat.lt_or_ge j xs.length with h | h
    · exact h
    · rw [List.getElem?_eq_none h] at hx; cases hx
  have hxj : xs[j] = x := by rw [List.getElem?_eq_getElem hj] at hx; simpa using hx
  obtain ⟨_, hf⟩ := hc2 j hj
  have f0 := hf 0 (by omega)
  have f1 := hf 1 (by omega)
  have f2 := hf 2 (by omega)
  simp only [List.getElem_map, hxj, ActD.row] at f0 f1 f2
  exact ⟨f0.1, by simpa using f0.2, by simpa [Nat.add_assoc] using f1.2, by simpa [Nat.add_assoc] using f2.2⟩
end Go.Proofs.Ytgmgofcclddkiaa
