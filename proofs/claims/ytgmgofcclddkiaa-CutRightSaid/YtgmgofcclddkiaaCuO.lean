/- A slice of claims that came in, as a list. -/
import Derived.Test.YtgmgofcclddkiaaCu1
namespace Go.Proofs.Ytgmgofcclddkiaa
open Go.RowKit Go.Maps Go.WideShapes

def ClaimsIn (w : World) (v : Value) : Prop := ∃ xs, ClmsAt w v xs ∧ ∀ x ∈ xs, okC x
theorem cells62 : Try.prog.cellsOf 62 = 3 := by kernel_rfl
theorem cells3 : Try.prog.cellsOf 3 = 1 := by kernel_rfl
theorem cells2 : Try.prog.cellsOf 2 = 1 := by kernel_rfl
theorem open_claims_at {H : Type} {enc : TypeId × Value → H} {w : World} {base : Nat} {held : Bool} {a0 : Option Addr} {len cap : Nat} {y : DataW H × List MemPlace} {fuel : Nat}
    (h : DataW.trod enc Try.prog w base (fun _ => true) held fuel 59 (Value.slice a0 len cap).cells.toList = some y) : ClaimsIn w (.slice a0 len cap) := by
  obtain ⟨rows, hr, hE⟩ := open_rows_at 3 (by omega) Try.underlying59 cells62 (E := fun cs => ∃ x : Clm, cs = rowC x ∧ okC x) (fun cs n x hx => by
    obtain ⟨y0, y1, y2, n', _, hlen, h0, h1, h2⟩ := Deep.trod_struct3 Try.underlying62 hx
    simp only [cells3, cells2] at h0 h1 h2
    obtain ⟨k, e0, _, w0⟩ := DataW.trod_int Try.underlying3 h0
    obtain ⟨i, e1, _, w1⟩ := DataW.trod_int Try.underlying2 h1
    obtain ⟨s, e2, _, w2⟩ := DataW.trod_int Try.underlying2 h2
    rw [cells62] at hlen
    refine ⟨(k, i, s), ?_, i64b w0, i64b w1, i64b w2⟩
    match cs, hlen with
    | [c0, c1, c2], _ =>
      simp at e0 e1 e2
      subst e0 e1 e2; rfl) h
  have : ∃ xs : List Clm, rows = xs.map rowC ∧ ∀ x ∈ xs, okC x := by
    clear hr h
    induction rows with
    | nil => exact ⟨[], rfl, by simp⟩
    | cons r rows ih =>
      obtain ⟨xs, e, ho⟩ := ih (fun r hr => hE r (by simp [hr]))
      obtain ⟨x, rfl, hx⟩ := hE r (by simp)
      exact ⟨x :: xs, by rw [e]; rfl, fun z hz => by
        rcases List.mem_cons.1 hz with rfl | hz
        · exact hx
        · exact ho z hz⟩
  obtain ⟨xs, rfl, ho⟩ := this
  exact ⟨xs, hr, ho⟩
end Go.Proofs.Ytgmgofcclddkiaa
