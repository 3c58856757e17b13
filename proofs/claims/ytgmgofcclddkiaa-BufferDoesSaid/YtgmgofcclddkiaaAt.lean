/- The buffer as its callers see it: what each method answers, and that blocks which are not the buffer's stay as they are. -/
import Derived.Test.YtgmgofcclddkiaaAw
namespace Go.Proofs.Ytgmgofcclddkiaa
open Go.RowKit Go.Maps Go.WideShapes

/-- a buffer of a call's own: all its blocks lie from B on; below B all is as it was in w0; the blocks of N aren't the buffer's -/
def BufAt (B : Nat) (w0 w : World) (p each room : Nat) (L : Things) (dr : Int) (N : List Nat) : Prop :=
  ∃ F, Rep w p F each room L dr ∧ (∀ k, F k → B ≤ k) ∧ Below B w0 w ∧ B ≤ w.heap.size ∧ ∀ j ∈ N, j < w.heap.size ∧ ¬ F j

/-- the blocks of N are as they were -/
def Same (N : List Nat) (w w' : World) : Prop := w.heap.size ≤ w'.heap.size ∧ ∀ j ∈ N, w'.heap[j]? = w.heap[j]?

theorem Same.refl (N : List Nat) (w : World) : Same N w w := ⟨Nat.le_refl _, fun _ _ => rfl⟩
theorem Same.trans {N : List Nat} {a b c : World} (h : Same N a b) (k : Same N b c) : Same N a c := ⟨Nat.le_trans h.1 k.1, fun j hj => (k.2 j hj).trans (h.2 j hj)⟩
theorem Same.sub {N N' : List Nat} {a b : World} (h : Same N a b) (hs : ∀ j ∈ N', j ∈ N) : Same N' a b := ⟨h.1, fun j hj => h.2 j (hs j hj)⟩

section
variable {B : Nat} {w0 w w' : World} {p each room : Nat} {L : Things} {dr : Int} {N : List Nat}

theorem BufAt.fine (h : BufAt B w0 w p each room L dr N) : Fine each room L := by obtain ⟨F, hr, _⟩ := h; exact hr.fine
theorem BufAt.below (h : BufAt B w0 w p each room L dr N) : Below B w0 w := by obtain ⟨F, _, _, hb, _⟩ := h; exact hb
theorem BufAt.size (h : BufAt B w0 w p each room L dr N) : B ≤ w.heap.size := by obtain ⟨F, _, _, _, hz, _⟩ := h; exact hz
theorem BufAt.ltN (h : BufAt B w0 w p each room L dr N) : ∀ j ∈ N, j < w.heap.size := by obtain ⟨F, _, _, _, _, hn⟩ := h; exact fun j hj => (hn j hj).1
theorem BufAt.sub {N' : List Nat} (h : BufAt B w0 w p each room L dr N) (hs : ∀ j ∈ N', j ∈ N) : BufAt B w0 w p each room L dr N' := by
  obtain ⟨F, a, b, c, d, e⟩ := h; exact ⟨F, a, b, c, d, fun j hj => e j (hs j hj)⟩

/-- a step of one's own that leaves the buffer's blocks alone -/
theorem BufAt.own (h : BufAt B w0 w p each room L dr N) (hb : Below B w w') (hk : ∀ j, j < w.heap.size → j ∉ N → w'.heap[j]? = w.heap[j]?) : BufAt B w0 w' p each room L dr N := by
  obtain ⟨F, a, b, c, d, e⟩ := h
  have hz := hb.size
  refine ⟨F, a.kept (fun k hf => hk k (a.lt k hf) (fun hn => (e k hn).2 hf)) hz, b, c.trans hb, by omega, fun j hj => ⟨by have := (e j hj).1; omega, (e j hj).2⟩⟩
theorem BufAt.alloc (h : BufAt B w0 w p each room L dr N) (o : Obj) : BufAt B w0 (w.alloc o) p each room L dr (w.heap.size :: N) := by
  obtain ⟨F, a, b, c, d, e⟩ := h
  refine ⟨F, a.alloc o, b, c.alloc d o, by simp; omega, fun j hj => ?_⟩
  rcases List.mem_cons.1 hj with rfl | hj
  · exact ⟨by simp, fun hf => by have := a.lt _ hf; omega⟩
  · exact ⟨by have := (e j hj).1; simp; omega, (e j hj).2⟩
theorem BufAt.drewN (h : BufAt B w0 w p each room L dr N) (n : Nat) : BufAt B w0 (w.drewN n) p each room L dr N := by
  obtain ⟨F, a, b, c, d, e⟩ := h
  exact ⟨F, a.drewN n, b, ⟨c.os, c.tape, c.output, c.size, c.block⟩, d, e⟩
/-- a store into a block of one's own -/
theorem BufAt.setCell (h : BufAt B w0 w p each room L dr N) {a : Addr} (ha : a.block ∈ N) (hB : B ≤ a.block) (u : Value) : BufAt B w0 (w.setCell a u) p each room L dr N :=
  h.own ((Below.refl _ _).setCell hB u) (fun _ _ hn => Below.heap_setCell _ _ _ _ (fun e => hn (e ▸ ha)))
theorem BufAt.mapTurned (h : BufAt B w0 w p each room L dr N) {b : Nat} (hb : b ∈ N) (hB : B ≤ b) (ht : w.mapTurned w' b) : BufAt B w0 w' p each room L dr N :=
  h.own ((Below.refl _ _).grown ht.grown h.size (fun k e => by cases e; exact hB)) (fun j _ hn => mapTurned_heap_ne ht (fun e => hn (e ▸ hb)))
/-- an append to a slice of one's own: its row is of N, or new -/
theorem BufAt.grown (h : BufAt B w0 w p each room L dr N) {row : Option Nat} (hg : w.grownBy w' row) (hr : ∀ k, row = some k → k ∈ N ∧ B ≤ k) : BufAt B w0 w' p each room L dr N :=
  h.own ((Below.refl _ _).grown hg h.size (fun k e => (hr k e).2)) (fun j hj hn => hg.block j hj (fun e => hn (hr j e.symm).1))
/-- what is new isn't the buffer's -/
theorem BufAt.fresh (h : BufAt B w0 w p each room L dr N) (hg : Below B w w') (hk : ∀ j, j < w.heap.size → j ∉ N → w'.heap[j]? = w.heap[j]?) {j : Nat} (h1 : w.heap.size ≤ j) (h2 : j < w'.heap.size) : BufAt B w0 w' p each room L dr (j :: N) := by
  have h' := h.own hg hk
  obtain ⟨F, a, b, c, d, e⟩ := h
  have hz := hg.size
  refine ⟨F, a.kept (fun k hf => hk k (a.lt k hf) (fun hn => (e k hn).2 hf)) hz, b, c.trans hg, by omega, fun i hi => ?_⟩
  rcases List.mem_cons.1 hi with rfl | hi
  · exact ⟨h2, fun hf => by have := a.lt _ hf; omega⟩
  · exact ⟨by have := (e i hi).1; omega, (e i hi).2⟩

theorem BufAt.put (h : BufAt B w0 w p each room L dr N) (i : Int) (t : ByteArray)
    (h1 : -9223372036854775808 ≤ i) (h2 : i ≤ 9223372036854775807) (ht : t.size ≤ maxLen) (hd1 : -9223372036854775808 ≤ dr) (hd2 : dr + 1 ≤ 9223372036854775807) (hL : L.length < 4611686018427387904) :
    Calls Try.prog 17 #[.pointer (some ⟨p, 0, none⟩), .int .i64 i, .string t] w fun e w' => e = .returned (.int .i64 (putE each room L i t)) ∧
      BufAt B w0 w' p each room (putL each room L i t) (putD each room L i t dr) N ∧ Same N w w' := by
  obtain ⟨F, a, b, c, d, n⟩ := h
  refine (put_any a i t h1 h2 ht hd1 hd2 hL).mono ?_
  rintro e w' ⟨rfl, F', hr, T, hF, _⟩
  refine ⟨rfl, ⟨F', hr, fun k hk => (hF k hk).elim (b k) (fun h => Nat.le_trans d h), c.trans (T.belowB d b), Nat.le_trans d T.size, fun j hj => ⟨Nat.lt_of_lt_of_le (n j hj).1 T.size, fun hf => ?_⟩⟩, ⟨T.size, fun j hj => T.block j (n j hj).1 (n j hj).2⟩⟩
  rcases hF j hf with hf | hf
  · exact (n j hj).2 hf
  · have := (n j hj).1; omega
/-- .. whose answer is known -/
theorem BufAt.put' (h : BufAt B w0 w p each room L dr N) (i : Int) (t : ByteArray)
    (h1 : -9223372036854775808 ≤ i) (h2 : i ≤ 9223372036854775807) (ht : t.size ≤ maxLen) (hd1 : -9223372036854775808 ≤ dr) (hd2 : dr + 1 ≤ 9223372036854775807) (hL : L.length < 4611686018427387904)
    {v : Int} {L' : Things} {dr' : Int} (he : putE each room L i t = v) (hl : L' = if v = 0 then L ++ [(i, t)] else L) (hd : dr' = if v = 4 then dr + 1 else dr) :
    Calls Try.prog 17 #[.pointer (some ⟨p, 0, none⟩), .int .i64 i, .string t] w fun e w' => e = .returned (.int .i64 v) ∧
      BufAt B w0 w' p each room L' dr' N ∧ Same N w w' := by
  refine (h.put i t h1 h2 ht hd1 hd2 hL).mono ?_
  rintro e w' ⟨rfl, a, b⟩
  unfold putL putD at a
  rw [he, ← hl, ← hd] at a
  exact ⟨by rw [he], a, b⟩

/-- the block of a slice, if it has one -/
def blockOf (v : Value) : List Nat := v.ownBlock.toList

theorem BufAt.take (h : BufAt B w0 w p each room L dr N) (i : Int) (h1 : -9223372036854775808 ≤ i) (h2 : i ≤ 9223372036854775807) (hL : L.length < 4611686018427387904) :
    Calls Try.prog 20 #[.pointer (some ⟨p, 0, none⟩), .int .i64 i] w fun e w' => ∃ v, e = .returned v ∧ w'.ownsRow w.heap.size 9 1 v (texts L i).length ((texts L i).map Value.string) ∧
      BufAt B w0 w' p each room (takeL L i) dr (blockOf v ++ N) ∧ Same N w w' := by
  obtain ⟨F, a, b, c, d, n⟩ := h
  refine (take_any a i h1 h2 hL).mono ?_
  rintro e w' ⟨v, rfl, hrow, _, hr, T⟩
  refine ⟨v, rfl, hrow, ⟨F, hr, b, c.trans (T.belowB d b), Nat.le_trans d T.size, fun j hj => ?_⟩, ⟨T.size, fun j hj => T.block j (n j hj).1 (n j hj).2⟩⟩
  rcases List.mem_append.1 hj with hj | hj
  · have hj' : v.ownBlock = some j := by simpa [blockOf] using hj
    obtain ⟨e1, e2⟩ := hrow.lt j hj'
    exact ⟨e2, fun hf => by have := a.lt _ hf; omega⟩
  · exact ⟨Nat.lt_of_lt_of_le (n j hj).1 T.size, (n j hj).2⟩
theorem BufAt.drop (h : BufAt B w0 w p each room L dr N) (i : Int) (hL : L.length < 4611686018427387904) :
    Calls Try.prog 22 #[.pointer (some ⟨p, 0, none⟩), .int .i64 i] w fun e w' => e = .returned (.int .i64 (L.length - (dropL L i).length)) ∧
      BufAt B w0 w' p each room (dropL L i) dr N ∧ Same N w w' := by
  obtain ⟨F, a, b, c, d, n⟩ := h
  refine (drop_any a i hL).mono ?_
  rintro e w' ⟨rfl, hr, T⟩
  exact ⟨rfl, ⟨F, hr, b, c.trans (T.belowB d b), Nat.le_trans d T.size, fun j hj => ⟨Nat.lt_of_lt_of_le (n j hj).1 T.size, (n j hj).2⟩⟩, ⟨T.size, fun j hj => T.block j (n j hj).1 (n j hj).2⟩⟩
theorem BufAt.intervals (h : BufAt B w0 w p each room L dr N) :
    Calls Try.prog 24 #[.pointer (some ⟨p, 0, none⟩)] w fun e w' => ∃ v, e = .returned v ∧ w'.ownsRow w.heap.size 3 1 v (ivs L).length ((ivs L).map (Value.int .i64)) ∧
      BufAt B w0 w' p each room L dr (blockOf v ++ N) ∧ Same N w w' := by
  obtain ⟨F, a, b, c, d, n⟩ := h
  refine (intervals_any a).mono ?_
  rintro e w' ⟨v, rfl, hrow, _, hb⟩
  have T : Turned F w w' := Turned.of_below hb
  refine ⟨v, rfl, hrow, ⟨F, a.kept (fun k hk => hb.block k (a.lt k hk)) hb.size, b, c.trans (T.belowB d b), Nat.le_trans d T.size, fun j hj => ?_⟩, ⟨T.size, fun j hj => hb.block j (n j hj).1⟩⟩
  rcases List.mem_append.1 hj with hj | hj
  · have hj' : v.ownBlock = some j := by simpa [blockOf] using hj
    obtain ⟨e1, e2⟩ := hrow.lt j hj'
    exact ⟨e2, fun hf => by have := a.lt _ hf; omega⟩
  · exact ⟨Nat.lt_of_lt_of_le (n j hj).1 T.size, (n j hj).2⟩
theorem BufAt.sizeC (h : BufAt B w0 w p each room L dr N) : Calls Try.prog 26 #[.pointer (some ⟨p, 0, none⟩)] w fun e w' => e = .returned (.int .i64 L.length) ∧ w = w' := by
  obtain ⟨F, a, _⟩ := h; exact size_any a
theorem BufAt.droppedC (h : BufAt B w0 w p each room L dr N) : Calls Try.prog 27 #[.pointer (some ⟨p, 0, none⟩)] w fun e w' => e = .returned (.int .i64 dr) ∧ w = w' := by
  obtain ⟨F, a, _⟩ := h; exact dropped_any a
theorem BufAt.hasC (h : BufAt B w0 w p each room L dr N) (i : Int) (t : ByteArray) (h1 : -9223372036854775808 ≤ i) (h2 : i ≤ 9223372036854775807) (ht : t.size ≤ maxLen) :
    Calls Try.prog 28 #[.pointer (some ⟨p, 0, none⟩), .int .i64 i, .string t] w fun e w' => e = .returned (.bool (hasT L i t)) ∧ w = w' := by
  obtain ⟨F, a, _⟩ := h; exact has_any a i t h1 h2 ht
end

/-- New, for a caller whose blocks N lie from B on, or below -/
theorem BufAt.new {B : Nat} {w0 w : World} (hb : Below B w0 w) (hB : B ≤ w.heap.size) (N : List Nat) (hN : ∀ j ∈ N, j < w.heap.size) (a b : Int) (h1 : 1 ≤ a) (h2 : a ≤ 64) (h3 : 1 ≤ b) (h4 : b ≤ 64) :
    Calls Try.prog 14 #[.int .i64 a, .int .i64 b] w fun e w' => e = .returned (.tuple #[.pointer (some ⟨w.heap.size + 1, 0, none⟩), .int .i64 0]) ∧
      BufAt B w0 w' (w.heap.size + 1) a.toNat b.toNat [] 0 N ∧ Same N w w' ∧ Below w.heap.size w w' := by
  refine (new_any a b h1 h2 h3 h4).mono ?_
  rintro e w' ⟨rfl, hr, hbw, hz⟩
  refine ⟨rfl, ⟨NewF w, hr, fun k hk => by rcases hk with rfl | rfl <;> omega, hb.trans (hbw.mono hB), by omega, fun j hj => ⟨by have := hN j hj; omega, fun hf => ?_⟩⟩, ⟨by omega, fun j hj => hbw.block j (hN j hj)⟩, hbw⟩
  have := hN j hj
  rcases hf with rfl | rfl <;> omega

/-- a row stays while its block does -/
theorem row_same {w w' : World} {base : Nat} {e : TypeId} {size : Nat} {v : Value} {n : Nat} {xs : List Value} (h : w.ownsRow base e size v n xs) {N : List Nat} (hs : Same N w w') (hN : ∀ j ∈ blockOf v, j ∈ N) : w'.ownsRow base e size v n xs := by
  obtain ⟨h1, h2⟩ := h
  refine ⟨h1, h2.imp id ?_⟩
  rintro ⟨g, cap, cur, rfl, b, c, d⟩
  exact ⟨g, cap, cur, rfl, b, (hs.2 g (hN g (by simp [blockOf, Value.ownBlock]))).trans c, d⟩
end Go.Proofs.Ytgmgofcclddkiaa
