/- The worlds through which the sort of edges passes: what is read, stored and asked there. -/
import Derived.Test.YtgmgofcclddkiaaSo0
namespace Go.Proofs.Ytgmgofcclddkiaa
open Go.RowKit Go.Sort Go.Proofs

theorem encE_len (x : Edge) : (encE x).length = 2 := rfl
theorem encE_one (x : Edge) : ∀ v ∈ encE x, v.oneCell' = true := by
  intro v hv
  simp only [encE, List.mem_cons, List.not_mem_nil, or_false] at hv
  rcases hv with rfl | rfl <;> rfl

/-- W comes behind the world w0 in the sort; the row at blk, off, of n edges, holds d there -/
structure SW (w0 : World) (blk off n : Nat) (d : Array Edge) (W : World) : Prop where
  size : d.size = n
  small : n < 4611686018427387904
  old : blk < w0.heap.size
  base : ∃ d0 : Array Edge, d0.size = n ∧ HoldsK encE 2 w0 blk off d0
  now : SWK encE 2 w0 blk off d W

section
variable {w0 W : World} {blk off n : Nat} {d : Array Edge}

theorem SW.start (h : HoldsK encE 2 w0 blk off d) (hb : blk < w0.heap.size) (hs : d.size < 4611686018427387904) : SW w0 blk off d.size d w0 :=
  ⟨rfl, hs, hb, ⟨d, rfl, h⟩, SWK.start h⟩

theorem SW.row (h : SW w0 blk off n d W) : ∃ d0, RowK encE 2 w0 blk off d0 ∧ d.size = d0.size := by
  obtain ⟨d0, e, h0⟩ := h.base
  exact ⟨d0, ⟨encE_len, encE_one, h0, h.old⟩, h.size.trans e.symm⟩

theorem SW.grown (h : SW w0 blk off n d W) (m : Nat) (os : Array Obj) : SW w0 blk off n d (grow (W.drewN m) os) := { h with now := h.now.grown m os }
theorem SW.drew (h : SW w0 blk off n d W) : SW w0 blk off n d W.drew := { h with now := h.now.drew }
theorem SW.lt (h : SW w0 blk off n d W) : blk < W.heap.size := h.now.lt h.old

/-- an edge's two cells, and that they may be written -/
theorem SW.cells (h : SW w0 blk off n d W) (i : Nat) (hi : i < n) : W.cell? ⟨blk, off + i * 2, none⟩ = some (.int .i64 d[i]!.1) ∧ W.cell? ⟨blk, off + i * 2 + 1, none⟩ = some (.int .i64 d[i]!.2) ∧
    W.frozen? ⟨blk, off + i * 2, none⟩ = false ∧ W.frozen? ⟨blk, off + i * 2 + 1, none⟩ = false := by
  obtain ⟨d0, R, hs⟩ := h.row
  have hH := h.now.holds R.hblk R.hH hs
  have hc := HoldsK.cells hH R.hk (i := i) (by rw [h.size]; exact hi)
  have h0 := hc 0 _ rfl
  have h1 := hc 1 _ rfl
  rw [Addr.add_lit] at h0 h1
  have f0 := hH (i * 2) (by rw [size_flatK, h.size]; omega)
  have f1 := hH (i * 2 + 1) (by rw [size_flatK, h.size]; omega)
  exact ⟨h0, h1, f0.2, f1.2⟩

/-- .. in each world of a region that reads and asks -/
theorem SW.rd (h : SW w0 blk off n d W) (i : Nat) (hi : i < n) : ∃ x : Edge, x = d[i]! ∧ (∀ m os, (grow (W.drewN m) os).cell? ⟨blk, off + i * 2, none⟩ = some (.int .i64 x.1)) ∧
    (∀ m os, (grow (W.drewN m) os).cell? ⟨blk, off + i * 2 + 1, none⟩ = some (.int .i64 x.2)) :=
  ⟨_, rfl, fun m os => ((h.grown m os).cells i hi).1, fun m os => ((h.grown m os).cells i hi).2.1⟩

/-- what is asked of two edges -/
theorem SW.ask (h : SW w0 blk off n d W) (i k : Nat) (hi : i < n) (hk : k < n) {b : Bool} (hb : ltE d[i]! d[k]! = b) : ∃ x y : Edge,
    (∀ m os, (grow (W.drewN m) os).cell? ⟨blk, off + i * 2, none⟩ = some (.int .i64 x.1)) ∧ (∀ m os, (grow (W.drewN m) os).cell? ⟨blk, off + i * 2 + 1, none⟩ = some (.int .i64 x.2)) ∧
    (∀ m os, (grow (W.drewN m) os).cell? ⟨blk, off + k * 2, none⟩ = some (.int .i64 y.1)) ∧ (∀ m os, (grow (W.drewN m) os).cell? ⟨blk, off + k * 2 + 1, none⟩ = some (.int .i64 y.2)) ∧
    (∀ m os, Calls Try.prog 48 #[.agg #[], .agg #[.int .i64 x.1, .int .i64 x.2], .agg #[.int .i64 y.1, .int .i64 y.2]] (grow (W.drewN m) os) fun e w' => e = .returned (.int .i64 (cfE x y)) ∧ ∃ p : GrownBy, w' = grow (W.drewN p.n) p.os) ∧
    decide (cfE x y < 0) = b := by
  refine ⟨d[i]!, d[k]!, fun m os => ((h.grown m os).cells i hi).1, fun m os => ((h.grown m os).cells i hi).2.1, fun m os => ((h.grown m os).cells k hk).1, fun m os => ((h.grown m os).cells k hk).2.1, fun m os => ?_, ?_⟩
  · exact Calls.grown_of (of_any _ _ _)
  · rw [← hb]; rfl

/-- what an exchange loads and stores, and what there is behind it -/
theorem SW.swaps (h : SW w0 blk off n d W) (i k : Nat) (hi : i < n) (hk : k < n) : ∃ a b : Edge,
    W.cell? ⟨blk, off + i * 2, none⟩ = some (.int .i64 a.1) ∧ W.cell? ⟨blk, off + i * 2 + 1, none⟩ = some (.int .i64 a.2) ∧
    W.cell? ⟨blk, off + k * 2, none⟩ = some (.int .i64 b.1) ∧ W.cell? ⟨blk, off + k * 2 + 1, none⟩ = some (.int .i64 b.2) ∧
    W.frozen? ⟨blk, off + i * 2, none⟩ = false ∧ W.frozen? ⟨blk, off + i * 2 + 1, none⟩ = false ∧
    W.frozen? ⟨blk, off + k * 2, none⟩ = false ∧ W.frozen? ⟨blk, off + k * 2 + 1, none⟩ = false ∧
    (∃ v, (W.setCell ⟨blk, off + i * 2, none⟩ (.int .i64 b.1)).cell? ⟨blk, off + i * 2 + 1, none⟩ = some v) ∧
    (∃ v, ((W.setCell ⟨blk, off + i * 2, none⟩ (.int .i64 b.1)).setCell ⟨blk, off + i * 2 + 1, none⟩ (.int .i64 b.2)).cell? ⟨blk, off + k * 2, none⟩ = some v) ∧
    (∃ v, (((W.setCell ⟨blk, off + i * 2, none⟩ (.int .i64 b.1)).setCell ⟨blk, off + i * 2 + 1, none⟩ (.int .i64 b.2)).setCell ⟨blk, off + k * 2, none⟩ (.int .i64 a.1)).cell? ⟨blk, off + k * 2 + 1, none⟩ = some v) ∧
    SW w0 blk off n (swp d i k) ((((W.setCell ⟨blk, off + i * 2, none⟩ (.int .i64 b.1)).setCell ⟨blk, off + i * 2 + 1, none⟩ (.int .i64 b.2)).setCell ⟨blk, off + k * 2, none⟩ (.int .i64 a.1)).setCell ⟨blk, off + k * 2 + 1, none⟩ (.int .i64 a.2)).drew := by
  obtain ⟨d0, R, hs⟩ := h.row
  have hi' : i < d.size := by rw [h.size]; exact hi
  have hk' : k < d.size := by rw [h.size]; exact hk
  obtain ⟨a1, a2, a3, a4⟩ := h.cells i hi
  obtain ⟨b1, b2, b3, b4⟩ := h.cells k hk
  obtain ⟨v1, h1⟩ := cell?_setCell_some (w := W) (p := ⟨blk, off + i * 2, none⟩) (x := .int .i64 d[k]!.1) a2
  obtain ⟨u2, g2⟩ := cell?_setCell_some (w := W) (p := ⟨blk, off + i * 2, none⟩) (x := .int .i64 d[k]!.1) b1
  obtain ⟨v2, h2⟩ := cell?_setCell_some (p := ⟨blk, off + i * 2 + 1, none⟩) (x := .int .i64 d[k]!.2) g2
  obtain ⟨u3, g3⟩ := cell?_setCell_some (w := W) (p := ⟨blk, off + i * 2, none⟩) (x := .int .i64 d[k]!.1) b2
  obtain ⟨u4, g4⟩ := cell?_setCell_some (p := ⟨blk, off + i * 2 + 1, none⟩) (x := .int .i64 d[k]!.2) g3
  obtain ⟨v3, h3⟩ := cell?_setCell_some (p := ⟨blk, off + k * 2, none⟩) (x := .int .i64 d[i]!.1) g4
  exact ⟨d[i]!, d[k]!, a1, a2, b1, b2, a3, a4, b3, b4, ⟨_, h1⟩, ⟨_, h2⟩, ⟨_, h3⟩,
    by rw [size_swp]; exact h.size, h.small, h.old, h.base, h.now.swapped R i k hi' hk'⟩
end
end Go.Proofs.Ytgmgofcclddkiaa
