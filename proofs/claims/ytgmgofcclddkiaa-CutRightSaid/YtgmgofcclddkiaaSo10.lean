/- slices.SortFunc at a slice of edges that the call itself made: behind it the slice holds the same edges, by where they are; nothing else turns. Condition: fewer than 2^62 edges. -/
import Derived.Test.YtgmgofcclddkiaaSo9
import Derived.Sort.OwnSorted
namespace Go.Proofs.Ytgmgofcclddkiaa
open Go.RowKit Go.Sort Go.Proofs Go.Shelf

/-- edges' cells, one behind the other -/
def flatE (xs : List Edge) : List Value := xs.flatMap encE
theorem flatE_nil : flatE [] = [] := rfl
theorem flatE_cons (x : Edge) (xs : List Edge) : flatE (x :: xs) = .int .i64 x.1 :: .int .i64 x.2 :: flatE xs := rfl
theorem flatE_append (xs ys : List Edge) : flatE (xs ++ ys) = flatE xs ++ flatE ys := List.flatMap_append
theorem flatE_len : ∀ xs : List Edge, (flatE xs).length = xs.length * 2
  | [] => rfl
  | x :: xs => by rw [flatE_cons]; simp only [List.length_cons, flatE_len xs]; omega

theorem flatE_get (xs : List Edge) (i : Nat) (hi : i < xs.length) : (flatE xs)[i * 2]? = some (.int .i64 xs[i].1) ∧ (flatE xs)[i * 2 + 1]? = some (.int .i64 xs[i].2) := by
  induction xs generalizing i with
  | nil => simp at hi
  | cons x xs ih =>
    cases i with
    | zero => exact ⟨rfl, rfl⟩
    | succ i =>
      have := ih i (by simpa using hi)
      rw [flatE_cons]
      rw [show (i + 1) * 2 = i * 2 + 1 + 1 by omega, show i * 2 + 1 + 1 + 1 = i * 2 + 1 + 1 + 1 from rfl]
      simpa using this

theorem flatK_flatE (d : Array Edge) : (flatK encE 2 d).toList = flatE d.toList := by
  apply List.ext_getElem?
  intro j
  by_cases hj : j < d.size * 2
  · have hlen : j < (flatK encE 2 d).size := by rw [size_flatK]; exact hj
    rw [Array.getElem?_toList, Array.getElem?_eq_getElem hlen]
    simp only [flatK, Array.getElem_map, Array.getElem_range]
    have h2 : j / 2 < d.size := by omega
    have hg := flatE_get d.toList (j / 2) (by simpa using h2)
    rw [getElem!_pos d (j / 2) h2]
    rcases Nat.mod_two_eq_zero_or_one j with h | h
    · have e : j / 2 * 2 = j := by omega
      rw [e] at hg
      rw [h, hg.1]; simp [encE]
    · have e : j / 2 * 2 + 1 = j := by omega
      rw [e] at hg
      rw [h, hg.2]; simp [encE]
  · rw [List.getElem?_eq_none (by simp [size_flatK]; omega), List.getElem?_eq_none (by rw [flatE_len]; simp; omega)]

theorem holds_edges {w : World} {g : Nat} {cur : Array Value} {e : TypeId} {xs : List Edge} (hb : w.heap[g]? = some (.cells cur e (0, 0))) (ht : cur.toList.take (xs.length * 2) = flatE xs) : HoldsK encE 2 w g 0 xs.toArray := by
  intro j hj
  have hj' : j < xs.length * 2 := by rw [size_flatK] at hj; simpa using hj
  refine ⟨?_, by simp [World.frozen?, hb]⟩
  have h1 : (cur.toList.take (xs.length * 2))[j]? = (flatK encE 2 xs.toArray).toList[j]? := by rw [ht, flatK_flatE]
  rw [List.getElem?_take_of_lt hj', Array.getElem?_toList, Array.getElem?_toList, Array.getElem?_eq_getElem hj] at h1
  simp only [World.cell?, hb, Nat.zero_add]
  simp only [Option.isSome_none, Bool.false_eq_true, if_false]
  rw [h1, id, getElem!_pos (flatK encE 2 xs.toArray) j hj]

theorem SW.heap {w0 W : World} {g n : Nat} {d : Array Edge} (h : SW w0 g 0 n d W) {cur : Array Value} {e : TypeId} {fr : Nat × Nat} (hb : w0.heap[g]? = some (.cells cur e fr)) :
    W.heap[g]? = some (.cells (putCells id 0 (flatK encE 2 d) cur) e fr) := by
  obtain ⟨m, os, rfl⟩ := h.now
  have hg : g < w0.heap.size := h.old
  unfold sortWorldK putRowK
  rw [heap_grow_old _ _ (by simpa using hg)]
  simp [putRow, mapBlock, Sort.ahead, Array.getElem?_modify, hb, onCells]

theorem SW.grownBy {w0 W : World} {g n : Nat} {d : Array Edge} (h : SW w0 g 0 n d W) : w0.grownBy W (some g) := by
  obtain ⟨m, os, rfl⟩ := h.now
  unfold sortWorldK putRowK
  refine ⟨rfl, rfl, rfl, by simp, fun k hk hne => ?_⟩
  rw [heap_grow_old _ _ (by simpa using hk)]
  have : g ≠ k := fun e => hne (by rw [e])
  simp [putRow, mapBlock, Sort.ahead, Array.getElem?_modify, this]

theorem take_putEdges (cur : Array Value) (ys : List Edge) (h : ys.length * 2 ≤ cur.size) : (putCells id 0 (flatK encE 2 ys.toArray) cur).toList.take (ys.length * 2) = flatE ys := by
  have hsz : (flatK encE 2 ys.toArray).size = ys.length * 2 := by rw [size_flatK]; simp
  have hl : (flatK encE 2 ys.toArray).toList = flatE ys := flatK_flatE _
  apply List.ext_getElem?
  intro j
  by_cases hj : j < ys.length * 2
  · rw [List.getElem?_take_of_lt hj, Array.getElem?_toList, ← hl, Array.getElem?_toList]
    rw [Array.getElem?_eq_getElem (show j < (flatK encE 2 ys.toArray).size by omega)]
    simp [putCells, hsz, hj, show j < cur.size by omega]
  · rw [List.getElem?_take_eq_none (by omega), List.getElem?_eq_none (by rw [flatE_len]; omega)]

/-- what the sort of a slice of the call's own leaves -/
def SortPost (w : World) (base : Nat) (v : Value) (xs : List Edge) (e : Ending) (w' : World) : Prop :=
  e = .returned (.tuple #[]) ∧ ∃ ys : List Edge, ys.Perm xs ∧ ys.Pairwise (fun a b => a.1 ≤ b.1) ∧ w'.ownsRow base 92 2 v xs.length (flatE ys) ∧ w.grownBy w' v.ownBlock

theorem bitlen_any (n : Nat) (hn : n < 4611686018427387904) (w : World) : Calls Try.prog 52 #[.int .u64 (n : Int)] w fun e w' => e = .returned (.int .i64 ((bitsLen n : Nat) : Int)) ∧ w' = w := by
  have h := Any.bits_Len (SlLaysF0.n15.bits (P := Try.prog) (ρ := Try.npot_ren) { Try.npot with }) (n : Int) w (by omega) (by omega)
  rwa [Int.toNat_natCast, bitLen_eq _ (by omega)] at h

theorem bitsLen_small (n : Nat) (hn : n < 4611686018427387904) : bitsLen n < 4611686018427387904 := by
  have := (bitsLen_le_iff n 62).2 (by omega)
  omega

set_option maxHeartbeats 4000000 in
set_option maxRecDepth 1000000 in
theorem sortfunc_some (w : World) (base g cap : Nat) (xs : List Edge) (h : w.ownsRow base 92 2 (.slice (some ⟨g, 0, none⟩) xs.length cap) xs.length (flatE xs)) (hn : xs.length < 4611686018427387904) :
    Calls Try.prog 47 #[.slice (some ⟨g, 0, none⟩) xs.length cap, ofV] w (SortPost w base (.slice (some ⟨g, 0, none⟩) xs.length cap) xs) := by
  rcases h.2 with ⟨h0, _⟩ | ⟨g', cap', cur, hv, hbase, hb, h1, h2, h3, h4⟩
  · cases h0
  cases hv
  have hH := holds_edges hb h4
  have hg : g < w.heap.size := (Array.getElem?_eq_some_iff.1 hb).1
  have S0 : SW w g 0 xs.length xs.toArray w := by
    have := SW.start hH hg (by simpa using hn)
    simpa using this
  have hp := Lib.hid (pdq_t w g 0 xs.length cap (xs.length + 1) 0 xs.length (bitsLen xs.length) xs.toArray w (by omega) S0 (Nat.zero_le _) (Nat.le_refl _) (bitsLen_small _ hn) (Or.inl rfl))
  have hl := Lib.hid (bitlen_any xs.length hn w)
  have POST : Hid (∀ w', Sorts w g 0 xs.length 0 xs.length xs.toArray w' → SortPost w base (.slice (some ⟨g, 0, none⟩) xs.length cap) xs (.returned (.tuple #[])) w') := by
    rintro w' ⟨d', pd, sd, S⟩
    have hd : d'.size = xs.length := S.size
    have hperm : d'.toList.Perm xs := by
      have := pd.2.2
      rw [show (d'.extract 0 xs.length) = d' by rw [← hd]; exact Array.extract_size] at this
      rw [show (xs.toArray.extract 0 xs.length) = xs.toArray by exact Array.extract_size (xs := xs.toArray)] at this
      simpa using this
    refine ⟨rfl, d'.toList, hperm, ?_, ?_, S.grownBy⟩
    · rw [List.pairwise_iff_getElem]
      intro i j hi hj hij
      have hj' : j < d'.size := by simpa using hj
      have := sd i j (Nat.zero_le _) hij (by omega)
      rw [getElem!_pos d' i (by omega), getElem!_pos d' j hj', ltE_eq] at this
      simp only [decide_eq_false_iff_not, Int.not_lt] at this
      simpa using this
    · refine ⟨by rw [flatE_len]; simp [hd], .inr ⟨g, cap, _, rfl, hbase, S.heap hb, h1, h2, by simp [putCells, h3], ?_⟩⟩
      have := take_putEdges cur d'.toList (by simp [hd, h3]; omega)
      simpa [hd] using this
  clear h1 h2 h3 h4 hb hbase hH hg S0 h
  have wr : IntKind.u64.wrap (xs.length : Int) = xs.length := by simp [IntKind.wrap, IntKind.bits, IntKind.signed]; omega
  go_enter Try.func47, Try.ntmps47
  go_wp2_with fail
  refine hl.out.mono ?_
  rintro e w' ⟨rfl, rfl⟩
  go_wp2_with (go_at_call 53; refine hp.out.mono ?_; rintro e w' ⟨rfl, hs⟩)
  go_end0
  exact POST.out _ hs
set_option maxRecDepth 1000000 in
theorem insert_nil (w : World) : Calls Try.prog 66 #[.slice none 0 0, .int .i64 0, .int .i64 0, ofV] w fun e w' => e = .returned (.tuple #[]) ∧ w = w' := by
  go_enter Try.func66, Try.ntmps66
  go_wp2
  go_loop [8] (fun i => i = .int .i64 1) (fun _ => 0)
  case atStart => rfl
  case round =>
    obtain rfl := hrel
    go_wp2
    go_end0
    exact ⟨rfl, rfl⟩

set_option maxRecDepth 1000000 in
set_option maxHeartbeats 4000000 in
theorem pdq_nil (w : World) : Calls Try.prog 53 #[.slice none 0 0, .int .i64 0, .int .i64 0, .int .i64 0, ofV] w fun e w' => e = .returned (.tuple #[]) ∧ w = w' := by
  go_enter Try.func53, Try.ntmps53
  go_wp2
  go_loopg [1, 2, 3, 10, 11] 0 (fun kx s1 s2 s3 s8 s9 wr => s1 = .int .i64 0 ∧ s2 = .int .i64 0 ∧ s3 = .int .i64 0 ∧ s8 = .bool true ∧ s9 = .bool true ∧ w = wr)
  case atStart => exact ⟨rfl, rfl, rfl, rfl, rfl, rfl⟩
  case round =>
    obtain ⟨rfl, rfl, rfl, rfl, rfl, rfl⟩ := hrel
    go_wp2_with (go_at_call 66; refine (insert_nil _).mono ?_; rintro e w1 ⟨rfl, rfl⟩)
    (try simp only [Exit.inBlock, Exit.then]); refine bodyPost_ret (results_none rfl _ _ _) rfl ?_
    exact ⟨rfl, rfl⟩

/-- .. and of no edges -/
theorem sortfunc_nil (w : World) : Calls Try.prog 47 #[.slice none 0 0, ofV] w fun e w' => e = .returned (.tuple #[]) ∧ w = w' := by
  have hl := bitlen_any 0 (by omega) w
  rw [show bitsLen 0 = 0 by decide +kernel] at hl
  have HL := Lib.hid hl
  clear hl
  go_enter Try.func47, Try.ntmps47
  go_wp2_with fail
  refine HL.out.mono ?_
  rintro e w' ⟨rfl, rfl⟩
  go_wp2_with (go_at_call 53; refine (pdq_nil _).mono ?_; rintro e w' ⟨rfl, rfl⟩)
  go_end0
  exact ⟨rfl, rfl⟩

/-- slices.SortFunc at a slice of edges of the call's own -/
theorem sortfunc_own (w : World) (base : Nat) (v : Value) (xs : List Edge) (h : w.ownsRow base 92 2 v xs.length (flatE xs)) (hn : xs.length < 4611686018427387904) :
    Calls Try.prog 47 #[v, ofV] w (SortPost w base v xs) := by
  rcases h.2 with ⟨rfl, h0⟩ | ⟨g, cap, cur, rfl, _⟩
  · have hx : xs = [] := List.eq_nil_of_length_eq_zero h0
    subst hx
    refine (sortfunc_nil w).mono ?_
    rintro e w' ⟨rfl, rfl⟩
    exact ⟨rfl, [], List.Perm.refl _, List.Pairwise.nil, h, ⟨rfl, rfl, rfl, Nat.le_refl _, fun _ _ _ => rfl⟩⟩
  · exact sortfunc_some w base g cap xs h hn
end Go.Proofs.Ytgmgofcclddkiaa
