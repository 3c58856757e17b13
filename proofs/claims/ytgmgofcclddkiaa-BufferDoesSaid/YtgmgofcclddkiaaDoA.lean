/- The buffer and the reference's buffer side by side. -/
import Derived.Test.YtgmgofcclddkiaaRpt
namespace Go.Proofs.Ytgmgofcclddkiaa
open Go.RowKit Go.Maps Go.WideShapes

/-- a step of another's own, after which the new blocks M are the caller's -/
theorem BufAt.freshes {B : Nat} {w0 w w' : World} {p each room : Nat} {L : Things} {dr : Int} {N : List Nat} (h : BufAt B w0 w p each room L dr N) (hg : Below B w w') (hk : ∀ j, j < w.heap.size → j ∉ N → w'.heap[j]? = w.heap[j]?) (M : List Nat) (hM : ∀ j ∈ M, (w.heap.size ≤ j ∧ j < w'.heap.size) ∨ j ∈ N) : BufAt B w0 w' p each room L dr M := by
  obtain ⟨F, a, b, c, d, e⟩ := h
  have hz := hg.size
  refine ⟨F, a.kept (fun k hf => hk k (a.lt k hf) (fun hn => (e k hn).2 hf)) hz, b, c.trans hg, by omega, fun i hi => ?_⟩
  rcases hM i hi with ⟨h1, h2⟩ | h1
  · exact ⟨h2, fun hf => by have := a.lt _ hf; omega⟩
  · exact ⟨by have := (e i h1).1; omega, (e i h1).2⟩

def Pair (B : Nat) (w0 : World) (p q each room : Nat) (L1 : Things) (d1 : Int) (L2 : Things) (d2 : Int) (N : List Nat) (w : World) : Prop :=
  ∃ v, BufAt B w0 w p each room L1 d1 (q :: (blockOf v ++ N)) ∧ Ref w q each room L2 d2 v ∧ B ≤ q ∧ q ∉ N

section
variable {B : Nat} {w0 w w' : World} {p q each room : Nat} {L1 L2 : Things} {d1 d2 : Int} {N : List Nat}
theorem Pair.fine (h : Pair B w0 p q each room L1 d1 L2 d2 N w) : Fine each room L1 := by obtain ⟨v, hb, _⟩ := h; exact hb.fine
theorem Pair.below (h : Pair B w0 p q each room L1 d1 L2 d2 N w) : Below B w0 w := by obtain ⟨v, hb, _⟩ := h; exact hb.below
theorem Pair.size (h : Pair B w0 p q each room L1 d1 L2 d2 N w) : B ≤ w.heap.size := by obtain ⟨v, hb, _⟩ := h; exact hb.size
theorem Pair.sub {N' : List Nat} (h : Pair B w0 p q each room L1 d1 L2 d2 N w) (hs : ∀ j ∈ N', j ∈ N) : Pair B w0 p q each room L1 d1 L2 d2 N' w := by
  obtain ⟨v, hb, hr, hq, hn⟩ := h
  refine ⟨v, hb.sub (fun j hj => ?_), hr, hq, fun h => hn (hs _ h)⟩
  simp only [List.mem_cons, List.mem_append] at hj ⊢
  rcases hj with h | h | h
  · exact .inl h
  · exact .inr (.inl h)
  · exact .inr (.inr (hs _ h))
theorem Pair.drewN (h : Pair B w0 p q each room L1 d1 L2 d2 N w) (n : Nat) : Pair B w0 p q each room L1 d1 L2 d2 N (w.drewN n) := by
  obtain ⟨v, hb, hr, hq, hn⟩ := h
  exact ⟨v, hb.drewN n, hr.keep rfl (fun _ _ => rfl), hq, hn⟩
theorem Pair.alloc (h : Pair B w0 p q each room L1 d1 L2 d2 N w) (o : Obj) : Pair B w0 p q each room L1 d1 L2 d2 (w.heap.size :: N) (w.alloc o) := by
  obtain ⟨v, hb, hr, hq, hn⟩ := h
  have hql := hb.ltN q (by simp)
  refine ⟨v, (hb.alloc o).sub (fun j hj => ?_), hr.keep ((MapKept.heap_alloc w o).2 _ hql) (fun k hk => (MapKept.heap_alloc w o).2 _ (row_lt hr.2 k hk).2), hq, fun h => ?_⟩
  · simp only [List.mem_cons, List.mem_append] at hj ⊢
    rcases hj with h | h | h | h
    · exact .inr (.inl h)
    · exact .inr (.inr (.inl h))
    · exact .inl h
    · exact .inr (.inr (.inr h))
  · rcases List.mem_cons.1 h with h | h
    · omega
    · exact hn h

/-- the buffer has made a step -/
theorem pair_b {L1' : Things} {d1' : Int} {M : List Nat} {v : Value} (hr : Ref w q each room L2 d2 v) (hq : B ≤ q) (hn : q ∉ N) (hM : q ∉ M) (hb : BufAt B w0 w' p each room L1' d1' (M ++ q :: (blockOf v ++ N))) (hs : Same (q :: (blockOf v ++ N)) w w') :
    Pair B w0 p q each room L1' d1' L2 d2 (M ++ N) w' ∧ Same N w w' := by
  refine ⟨⟨v, hb.sub (fun j hj => ?_), hr.same hs (by simp) (fun k hk => by simp [hk]), hq, fun h => ?_⟩, hs.sub (fun j hj => by simp [hj])⟩
  · simp only [List.mem_cons, List.mem_append] at hj ⊢
    rcases hj with h | h | h | h
    · exact .inr (.inl h)
    · exact .inr (.inr (.inl h))
    · exact .inl h
    · exact .inr (.inr (.inr h))
  · rcases List.mem_append.1 h with h | h
    · exact hM h
    · exact hn h
/-- the reference has made a step -/
theorem pair_r {L2' : Things} {d2' : Int} {M : List Nat} {v v' : Value} (hb : BufAt B w0 w p each room L1 d1 (q :: (blockOf v ++ N))) (hq : B ≤ q) (hn : q ∉ N) (hr' : Ref w' q each room L2' d2' v') (hv : v' = v ∨ ∀ k ∈ blockOf v', w.heap.size ≤ k) (T : Turned (fun k => k = q) w w')
    (hM : ∀ j ∈ M, w.heap.size ≤ j ∧ j < w'.heap.size) : Pair B w0 p q each room L1 d1 L2' d2' (M ++ N) w' ∧ Same N w w' := by
  have hql := hb.ltN q (by simp)
  refine ⟨⟨v', hb.freshes (T.belowB hb.size (fun j hj => by subst hj; exact hq)) (fun j hj hnj => T.block j hj (fun e => hnj (by simp [e]))) _ (fun j hj => ?_), hr', hq, fun h => ?_⟩, T.size, fun j hj => T.block j (hb.ltN j (by simp [hj])) (fun e => hn (e ▸ hj))⟩
  · simp only [List.mem_cons, List.mem_append] at hj ⊢
    rcases hj with h | h | h | h
    · exact .inr (.inl h)
    · rcases hv with rfl | hv
      · exact .inr (.inr (.inl h))
      · exact .inl ⟨hv j h, (row_lt hr'.2 j h).2⟩
    · exact .inl (hM j h)
    · exact .inr (.inr (.inr h))
  · rcases List.mem_append.1 h with h | h
    · have := (hM _ h).1; omega
    · exact hn h

theorem Pair.bput (h : Pair B w0 p q each room L1 d1 L2 d2 N w) (i : Int) (t : ByteArray) (h1 : -9223372036854775808 ≤ i) (h2 : i ≤ 9223372036854775807) (ht : t.size ≤ maxLen) (hd1 : 0 ≤ d1) (hd2 : d1 < 1000000) (hL : L1.length < 1000000) :
    Calls Try.prog 17 #[.pointer (some ⟨p, 0, none⟩), .int .i64 i, .string t] w fun e w' => e = .returned (.int .i64 (putE each room L1 i t)) ∧ Pair B w0 p q each room (putL each room L1 i t) (putD each room L1 i t d1) L2 d2 N w' ∧ Same N w w' := by
  obtain ⟨v, hb, hr, hq, hn⟩ := h
  refine (hb.put i t h1 h2 ht (by omega) (by omega) (by omega)).mono ?_
  rintro e w' ⟨rfl, hb', hs⟩
  exact ⟨rfl, pair_b (M := []) hr hq hn (by simp) hb' hs⟩
theorem Pair.rput (h : Pair B w0 p q each room L1 d1 L2 d2 N w) (i : Int) (t : ByteArray) (hd1 : 0 ≤ d2) (hd2 : d2 < 1000000) (hL : L2.length < 1000000) :
    Calls Try.prog 18 #[.pointer (some ⟨q, 0, none⟩), .int .i64 i, .string t] w fun e w' => e = .returned (.int .i64 (putE each room L2 i t)) ∧ Pair B w0 p q each room L1 d1 (putL each room L2 i t) (putD each room L2 i t d2) N w' ∧ Same N w w' := by
  have hf := h.fine
  obtain ⟨v, hb, hr, hq, hn⟩ := h
  refine (rput_any hr hL hf.b1 hf.b2 hd1 hd2 i t).mono ?_
  rintro e w' ⟨rfl, v', hr', hv, T⟩
  exact ⟨rfl, pair_r (M := []) hb hq hn hr' hv T (by simp)⟩
theorem Pair.btake (h : Pair B w0 p q each room L1 d1 L2 d2 N w) (i : Int) (h1 : -9223372036854775808 ≤ i) (h2 : i ≤ 9223372036854775807) (hL : L1.length < 1000000) :
    Calls Try.prog 20 #[.pointer (some ⟨p, 0, none⟩), .int .i64 i] w fun e w' => ∃ u, e = .returned u ∧ w'.ownsRow w.heap.size 9 1 u (texts L1 i).length ((texts L1 i).map Value.string) ∧ Pair B w0 p q each room (takeL L1 i) d1 L2 d2 (blockOf u ++ N) w' ∧ Same N w w' := by
  obtain ⟨v, hb, hr, hq, hn⟩ := h
  have hql := hb.ltN q (by simp)
  refine (hb.take i h1 h2 (by omega)).mono ?_
  rintro e w' ⟨u, rfl, hrow, hb', hs⟩
  exact ⟨u, rfl, hrow, pair_b hr hq hn (fun hh => by have := (row_lt hrow _ hh).1; omega) hb' hs⟩
theorem Pair.rtake (h : Pair B w0 p q each room L1 d1 L2 d2 N w) (i : Int) (hL : L2.length < 1000000) :
    Calls Try.prog 21 #[.pointer (some ⟨q, 0, none⟩), .int .i64 i] w fun e w' => ∃ u, e = .returned u ∧ w'.ownsRow w.heap.size 9 1 u (texts L2 i).length ((texts L2 i).map Value.string) ∧ Pair B w0 p q each room L1 d1 (takeL L2 i) d2 (blockOf u ++ N) w' ∧ Same N w w' := by
  obtain ⟨v, hb, hr, hq, hn⟩ := h
  refine (rtake_any hr hL i).mono ?_
  rintro e w' ⟨u, v', rfl, hrow, hr', hv, T⟩
  exact ⟨u, rfl, hrow, pair_r hb hq hn hr' (.inr hv) T (fun j hj => row_lt hrow j hj)⟩
theorem Pair.bdrop (h : Pair B w0 p q each room L1 d1 L2 d2 N w) (i : Int) (hL : L1.length < 1000000) :
    Calls Try.prog 22 #[.pointer (some ⟨p, 0, none⟩), .int .i64 i] w fun e w' => e = .returned (.int .i64 (L1.length - (dropL L1 i).length)) ∧ Pair B w0 p q each room (dropL L1 i) d1 L2 d2 N w' ∧ Same N w w' := by
  obtain ⟨v, hb, hr, hq, hn⟩ := h
  refine (hb.drop i (by omega)).mono ?_
  rintro e w' ⟨rfl, hb', hs⟩
  exact ⟨rfl, pair_b (M := []) hr hq hn (by simp) hb' hs⟩
theorem Pair.rdrop (h : Pair B w0 p q each room L1 d1 L2 d2 N w) (i : Int) (h2 : i ≤ 9223372036854775807) (hL : L2.length < 1000000) (hp : ∀ x ∈ L2, 1 ≤ x.1) :
    Calls Try.prog 23 #[.pointer (some ⟨q, 0, none⟩), .int .i64 i] w fun e w' => e = .returned (.int .i64 (L2.length - (dropL L2 i).length)) ∧ Pair B w0 p q each room L1 d1 (dropL L2 i) d2 N w' ∧ Same N w w' := by
  obtain ⟨v, hb, hr, hq, hn⟩ := h
  refine (rdrop_any hr hL hp i h2).mono ?_
  rintro e w' ⟨rfl, v', hr', hv, T⟩
  exact ⟨rfl, pair_r (M := []) hb hq hn hr' hv T (by simp)⟩
theorem Pair.bivs (h : Pair B w0 p q each room L1 d1 L2 d2 N w) :
    Calls Try.prog 24 #[.pointer (some ⟨p, 0, none⟩)] w fun e w' => ∃ u, e = .returned u ∧ w'.ownsRow w.heap.size 3 1 u (ivs L1).length ((ivs L1).map (Value.int .i64)) ∧ Pair B w0 p q each room L1 d1 L2 d2 (blockOf u ++ N) w' ∧ Same N w w' := by
  obtain ⟨v, hb, hr, hq, hn⟩ := h
  have hql := hb.ltN q (by simp)
  refine hb.intervals.mono ?_
  rintro e w' ⟨u, rfl, hrow, hb', hs⟩
  exact ⟨u, rfl, hrow, pair_b hr hq hn (fun hh => by have := (row_lt hrow _ hh).1; omega) hb' hs⟩
theorem Pair.rivs (h : Pair B w0 p q each room L1 d1 L2 d2 N w) (hL : L2.length < 1000000) :
    Calls Try.prog 25 #[.pointer (some ⟨q, 0, none⟩)] w fun e w' => ∃ u, e = .returned u ∧ w'.ownsRow w.heap.size 3 1 u (ivs L2).length ((ivs L2).map (Value.int .i64)) ∧ Pair B w0 p q each room L1 d1 L2 d2 (blockOf u ++ N) w' ∧ Same N w w' := by
  obtain ⟨v, hb, hr, hq, hn⟩ := h
  have hql := hb.ltN q (by simp)
  refine (rivs_any hr hL).mono ?_
  rintro e w' ⟨u, rfl, hrow, hbw⟩
  exact ⟨u, rfl, hrow, pair_r hb hq hn (hr.keep (hbw.block q hql) (fun k hk => hbw.block k (row_lt hr.2 k hk).2)) (.inl rfl) (Turned.of_below hbw) (fun j hj => row_lt hrow j hj)⟩
theorem Pair.bsize (h : Pair B w0 p q each room L1 d1 L2 d2 N w) : Calls Try.prog 26 #[.pointer (some ⟨p, 0, none⟩)] w fun e w' => e = .returned (.int .i64 L1.length) ∧ w = w' := by
  obtain ⟨v, hb, _⟩ := h; exact hb.sizeC
theorem Pair.bdropped (h : Pair B w0 p q each room L1 d1 L2 d2 N w) : Calls Try.prog 27 #[.pointer (some ⟨p, 0, none⟩)] w fun e w' => e = .returned (.int .i64 d1) ∧ w = w' := by
  obtain ⟨v, hb, _⟩ := h; exact hb.droppedC
theorem Pair.bhas (h : Pair B w0 p q each room L1 d1 L2 d2 N w) (i : Int) (t : ByteArray) (h1 : -9223372036854775808 ≤ i) (h2 : i ≤ 9223372036854775807) (ht : t.size ≤ maxLen) :
    Calls Try.prog 28 #[.pointer (some ⟨p, 0, none⟩), .int .i64 i, .string t] w fun e w' => e = .returned (.bool (hasT L1 i t)) ∧ w = w' := by
  obtain ⟨v, hb, _⟩ := h; exact hb.hasC i t h1 h2 ht
theorem Pair.rhas (h : Pair B w0 p q each room L1 d1 L2 d2 N w) (i : Int) (t : ByteArray) (hL : L2.length < 1000000) :
    Calls Try.prog 29 #[.pointer (some ⟨q, 0, none⟩), .int .i64 i, .string t] w fun e w' => e = .returned (.bool (hasT L2 i t)) ∧ w = w' := by
  obtain ⟨v, _, hr, _⟩ := h
  exact (rhas_any hr (by omega) i t).mono (fun e w' ⟨h1, h2⟩ => ⟨h1, h2.symm⟩)
/-- the reference's fields -/
theorem Pair.fields (h : Pair B w0 p q each room L1 d1 L2 d2 N w) : ∃ a cap, w.cell? ⟨q, 2, none⟩ = some (.int .i64 d2) ∧ w.cell? ⟨q, 3, none⟩ = some (.slice a L2.length cap) := by
  obtain ⟨v, _, hr, _⟩ := h
  obtain ⟨a, cap, rfl⟩ := row_form hr.2
  exact ⟨a, cap, cell_of hr.1 2, cell_of hr.1 3⟩
end
end Go.Proofs.Ytgmgofcclddkiaa
