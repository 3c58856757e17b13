/- The claims that CutRight makes: what they agree on. Pairs and marks that came in. Plain lemmas but for the opening. -/
import Derived.Test.YtgmgofcclddkiaaMaW
import Derived.OpenShut
namespace Go.Proofs.Ytgmgofcclddkiaa
open Go.RowKit Go.Maps Go.WideShapes

/-! ### pairs of two bytes each -/
abbrev Pr := Int × Int
def rowP (p : Pr) : List Value := [.int .u16 p.1, .int .u16 p.2]
def okP (p : Pr) : Prop := (0 ≤ p.1 ∧ p.1 ≤ 65535) ∧ (0 ≤ p.2 ∧ p.2 ≤ 65535)
def PairsAt (w : World) (v : Value) (xs : List Pr) : Prop := RowsAt w v 2 (xs.map rowP)
def PairsIn (w : World) (v : Value) : Prop := ∃ xs, PairsAt w v xs ∧ ∀ x ∈ xs, okP x
theorem cells60 : Try.prog.cellsOf 60 = 2 := by kernel_rfl
theorem cells53 : Try.prog.cellsOf 53 = 1 := by kernel_rfl
theorem u16b {x : Int} (h : (Lit.int .u16 x).wf = true) : 0 ≤ x ∧ x ≤ 65535 := by
  simp [Lit.wf, IntKind.min, IntKind.max, IntKind.bits, IntKind.signed] at h
  omega
set_option maxRecDepth 100000 in
theorem open_pairs_at {H : Type} {enc : TypeId × Value → H} {w : World} {base : Nat} {held : Bool} {a0 : Option Addr} {len cap : Nat} {y : DataW H × List MemPlace} {fuel : Nat}
    (h : DataW.trod enc Try.prog w base (fun _ => true) held fuel 58 (Value.slice a0 len cap).cells.toList = some y) : PairsIn w (.slice a0 len cap) := by
  obtain ⟨rows, hr, hE⟩ := open_rows_at 2 (by omega) Try.underlying58 cells60 (E := fun cs => ∃ x : Pr, cs = rowP x ∧ okP x) (fun cs n x hx => by
    obtain ⟨xs, m, _, _, hlen, hxl, hat⟩ := DataW.trod_array Try.underlying60 hx
    rw [cells60] at hlen
    obtain ⟨c0, c1, rfl⟩ : ∃ c0 c1, cs = [c0, c1] := by
      match cs, hlen with
      | [c0, c1], _ => exact ⟨c0, c1, rfl⟩
    have h0 := hat 0 (by omega)
    have h1 := hat 1 (by omega)
    rw [cells53] at h0 h1
    have e0 : xs[0]? = some xs[0] := List.getElem?_eq_getElem (by omega)
    have e1 : xs[1]? = some xs[1] := List.getElem?_eq_getElem (by omega)
    rw [e0] at h0
    rw [e1] at h1
    obtain ⟨k, f0, _, w0⟩ := DataW.trod_int Try.underlying53 h0
    obtain ⟨i, f1, _, w1⟩ := DataW.trod_int Try.underlying53 h1
    refine ⟨(k, i), ?_, u16b w0, u16b w1⟩
    simp at f0 f1
    subst f0 f1; rfl) h
  have : ∃ xs : List Pr, rows = xs.map rowP ∧ ∀ x ∈ xs, okP x := by
    clear hr h
    induction rows with
    | nil => exact ⟨[], rfl, by simp⟩
    | cons r rows ih =>
      obtain ⟨xs, e, ho⟩ := ih (fun r hr => hE r (by simp [hr]))
      obtain ⟨x, rfl, hx⟩ := hE r (by simp)
      exact ⟨x :: xs, by rw [e]; rfl, fun z hz => by
        rcases List.mem_cons.1 hz with rfl | hz
        · exact hx
        · exact ho z hz⟩
  obtain ⟨xs, rfl, ho⟩ := this
  exact ⟨xs, hr, ho⟩
theorem PairsAt.cells {w : World} {v : Value} {xs : List Pr} (h : PairsAt w v xs) : ∃ a cap, v = .slice a xs.length cap ∧ (0 < xs.length → ∃ b o, a = some ⟨b, o, none⟩ ∧ ∀ j x, xs[j]? = some x → b < w.heap.size ∧
    w.cell? ⟨b, o + j * 2, none⟩ = some (.int .u16 x.1) ∧ w.cell? ⟨b, o + j * 2 + 1, none⟩ = some (.int .u16 x.2)) := by
  obtain ⟨hl, a, cap, rfl, hc⟩ := h
  simp only [List.length_map] at hc ⊢
  refine ⟨a, cap, rfl, fun h0 => ?_⟩
  obtain ⟨b, o, rfl, hc2⟩ := hc h0
  refine ⟨b, o, rfl, fun j x hx => ?_⟩
  have hj : j < xs.length := by
    rcases Nat.lt_or_ge j xs.length with h | h
    · exact h
    · rw [List.getElem?_eq_none h] at hx; cases hx
  have hxj : xs[j] = x := by rw [List.getElem?_eq_getElem hj] at hx; simpa using hx
  obtain ⟨_, hf⟩ := hc2 j hj
  have f0 := hf 0 (by omega)
  have f1 := hf 1 (by omega)
  simp only [List.getElem_map, hxj, rowP] at f0 f1
  exact ⟨f0.1, by simpa using f0.2, by simpa [Nat.add_assoc] using f1.2⟩

/-! ### the claims -/
/-- is claim i marked wrong? -/
def wrongB (bs : List Bool) (i : Nat) : Bool := bs.getD i false
/-- claim i -/
def mkC (off : Int) (bs : List Bool) (i : Nat) (p : Pr) : Clm := if wrongB bs i = true then ((i : Int), off + 1 + p.1, off + 1 + p.1 + p.2) else ((i : Int), off - p.1, off + p.2)
def mkL (off : Int) (bs : List Bool) (ps : List Pr) (k : Nat) : List Clm := (List.range k).map (fun i => mkC off bs i (ps.getD i (0, 0)))
def rightN (bs : List Bool) (k : Nat) : Nat := (List.range k).countP (fun i => !wrongB bs i)
theorem mkL_len (off : Int) (bs : List Bool) (ps : List Pr) (k : Nat) : (mkL off bs ps k).length = k := by simp [mkL]
theorem mkL_succ (off : Int) (bs : List Bool) (ps : List Pr) (k : Nat) : mkL off bs ps (k + 1) = mkL off bs ps k ++ [mkC off bs k (ps.getD k (0, 0))] := by
  unfold mkL; rw [List.range_succ, List.map_append]; rfl
theorem rightN_succ (bs : List Bool) (k : Nat) : rightN bs (k + 1) = rightN bs k + (if wrongB bs k = true then 0 else 1) := by
  unfold rightN; rw [List.range_succ, List.countP_append, List.countP_singleton]
  cases wrongB bs k <;> simp
theorem rightN_le (bs : List Bool) (k : Nat) : rightN bs k ≤ k := by
  have := List.countP_le_length (p := fun i => !wrongB bs i) (l := List.range k); simpa [rightN] using this
theorem mkC_id (off : Int) (bs : List Bool) (i : Nat) (p : Pr) : (mkC off bs i p).1 = (i : Int) := by unfold mkC; split <;> rfl
theorem mkL_ids (off : Int) (bs : List Bool) (ps : List Pr) (k : Nat) : ((mkL off bs ps k).map (·.1)).Nodup := by
  unfold mkL
  rw [List.map_map]
  refine List.Pairwise.map _ (fun i j (h : i < j) => ?_) List.pairwise_lt_range
  show (mkC _ _ i _).1 ≠ (mkC _ _ j _).1
  rw [mkC_id, mkC_id]; omega
theorem mkL_last (off : Int) (bs : List Bool) (ps : List Pr) (k : Nat) : lastOf (mkL off bs ps k) = mkL off bs ps k := lastOf_distinct (mkL_ids off bs ps k)
theorem okP_getD {ps : List Pr} (h : ∀ p ∈ ps, okP p) (i : Nat) : okP (ps.getD i (0, 0)) := by
  rw [List.getD_eq_getElem?_getD]
  cases hx : ps[i]? with
  | none => simp [okP]
  | some x => exact h x (List.mem_of_getElem? hx)
theorem mkC_bounds {off : Int} (bs : List Bool) (i : Nat) {p : Pr} (hp : okP p) :
    (mkC off bs i p).2.1 ≤ (mkC off bs i p).2.2 ∧ off - 65535 ≤ (mkC off bs i p).2.1 ∧ (mkC off bs i p).2.2 ≤ off + 131071 := by
  obtain ⟨⟨a, b⟩, c, d⟩ := hp
  unfold mkC; split <;> (simp only; omega)
theorem mkL_may {off : Int} (ho : -1125899906842624 < off ∧ off < 1125899906842624) (bs : List Bool) {ps : List Pr} (hp : ∀ p ∈ ps, okP p) (k : Nat) : (mkL off bs ps k).any (fun c => !mayB c) = false := by
  rw [List.any_eq_false]
  intro c hc
  obtain ⟨i, _, rfl⟩ := List.mem_map.1 hc
  have hb := mkC_bounds (off := off) bs i (okP_getD hp i)
  have : mayB (mkC off bs i (ps.getD i (0, 0))) = true := (mayB_iff _).2 ⟨by rw [mkC_id]; omega, hb.1, by omega, by omega⟩
  rw [this]; simp
theorem mkL_ok {off : Int} (ho : -1125899906842624 < off ∧ off < 1125899906842624) (bs : List Bool) {ps : List Pr} (hp : ∀ p ∈ ps, okP p) (k : Nat) (hk : k ≤ 40) : ∀ c ∈ mkL off bs ps k, okC c := by
  intro c hc
  obtain ⟨i, hi, rfl⟩ := List.mem_map.1 hc
  have hi := List.mem_range.1 hi
  have hb := mkC_bounds (off := off) bs i (okP_getD hp i)
  unfold okC
  rw [mkC_id]
  omega
theorem mkC_has {off : Int} (bs : List Bool) (i : Nat) {p : Pr} (hp : okP p) : hasB off (mkC off bs i p) = !wrongB bs i := by
  obtain ⟨⟨a, b⟩, c, d⟩ := hp
  unfold mkC
  cases h : wrongB bs i
  · simp only [Bool.false_eq_true, if_false, Bool.not_false]
    rw [hasB_iff]; simp only; omega
  · simp only [if_true, Bool.not_true]
    cases hh : hasB off ((i : Int), off + 1 + p.1, off + 1 + p.1 + p.2)
    · rfl
    · have := (hasB_iff _ _).1 hh; simp only at this; omega
/-- the true offset has just the right ones' votes -/
theorem mkL_votes {off : Int} (bs : List Bool) {ps : List Pr} (hp : ∀ p ∈ ps, okP p) (k : Nat) : votes (mkL off bs ps k) off = rightN bs k := by
  unfold votes mkL rightN
  rw [List.countP_map]
  congr 1
  refine List.countP_congr (fun i _ => ?_)
  simp only [Function.comp]
  rw [mkC_has bs i (okP_getD hp i)]

/-- more than half of more than half meet -/
theorem both_of {α : Type} (p q : α → Bool) : ∀ (l : List α), l.length < l.countP p + l.countP q → ∃ x ∈ l, p x = true ∧ q x = true
  | [], h => by simp at h
  | x :: l, h => by
    by_cases hx : p x = true ∧ q x = true
    · exact ⟨x, List.mem_cons_self, hx⟩
    · have : l.length < l.countP p + l.countP q := by
        rw [List.countP_cons, List.countP_cons, List.length_cons] at h
        by_cases h1 : p x = true
        · have h2 : ¬ q x = true := fun h2 => hx ⟨h1, h2⟩
          rw [if_pos h1, if_neg h2] at h; omega
        · rw [if_neg h1] at h
          split at h <;> omega
      obtain ⟨y, hy, h'⟩ := both_of p q l this
      exact ⟨y, List.mem_cons_of_mem _ hy, h'⟩

/-- does a right claim meet the stretch? -/
def meetsB (off : Int) (bs : List Bool) (ps : List Pr) (a b : Int) (i : Nat) : Bool :=
  !wrongB bs i && (decide ((mkC off bs i (ps.getD i (0, 0))).2.1 ≤ b) && decide (a ≤ (mkC off bs i (ps.getD i (0, 0))).2.2))
def meetsN (off : Int) (bs : List Bool) (ps : List Pr) (a b : Int) (k : Nat) : Bool := (List.range k).any (meetsB off bs ps a b)
theorem meetsN_succ (off : Int) (bs : List Bool) (ps : List Pr) (a b : Int) (k : Nat) : meetsN off bs ps a b (k + 1) = (meetsN off bs ps a b k || meetsB off bs ps a b k) := by
  unfold meetsN; rw [List.range_succ, List.any_append]; simp

/-- if more than half are right, something is agreed on -/
theorem right_good {off : Int} (ho : -1125899906842624 < off ∧ off < 1125899906842624) (bs : List Bool) {ps : List Pr} (hp : ∀ p ∈ ps, okP p) {k : Nat} (hk : k ≤ 40) (hr : k < 2 * rightN bs k) {e : Ending} (h : AgreeRes (mkL off bs ps k) e) :
    ∃ a b v, e = retA a b v 0 ∧ (rightN bs k : Int) ≤ v ∧ v ≤ 64 ∧ meetsN off bs ps a b k = true ∧ (rightN bs k < k ∨ (a ≤ off ∧ off ≤ b)) := by
  rcases h with ⟨hA, _⟩ | ⟨_, hl, _⟩ | ⟨_, _, l, h', v, hI, hh⟩
  · rw [mkL_may ho bs hp k] at hA; cases hA
  · rw [mkL_len] at hl; omega
  · rw [mkL_last] at hI hh
    rw [mkL_len] at hh
    have hvo := hI.most off
    rw [mkL_votes bs hp k] at hvo
    rcases hh with ⟨h2, _⟩ | ⟨h2, rfl⟩
    · omega
    · have hv0 : 0 < v := by omega
      obtain ⟨hlh, hlt, hin, hout⟩ := hI.ends hv0
      have hvl : v ≤ k := by have := hI.at_low hv0; have := votes_le (mkL off bs ps k) l; rw [mkL_len] at this; omega
      have hal := hI.at_low hv0
      refine ⟨l, h', v, rfl, hvo, by omega, ?_, ?_⟩
      · have hc : (List.range k).countP (fun i => hasB l (mkC off bs i (ps.getD i (0, 0)))) = v.toNat := by
          have : votes (mkL off bs ps k) l = v := hal
          unfold votes mkL at this
          rw [List.countP_map] at this
          have e : (hasB l ∘ fun i => mkC off bs i (ps.getD i (0, 0))) = fun i => hasB l (mkC off bs i (ps.getD i (0, 0))) := rfl
          rw [e] at this
          omega
        obtain ⟨i, hi, h1, h2'⟩ := both_of (fun i => !wrongB bs i) (fun i => hasB l (mkC off bs i (ps.getD i (0, 0)))) (List.range k) (by
          rw [hc, List.length_range]
          show k < rightN bs k + v.toNat
          omega)
        unfold meetsN
        rw [List.any_eq_true]
        refine ⟨i, hi, ?_⟩
        have := (hasB_iff _ _).1 h2'
        unfold meetsB
        simp only [Bool.and_eq_true, decide_eq_true_eq]
        exact ⟨h1, by omega, by omega⟩
      · rcases Nat.lt_or_ge (rightN bs k) k with h1 | h1
        · exact .inl h1
        · right
          have hrk : rightN bs k = k := by have := rightN_le bs k; omega
          have hvk : v = k := by omega
          -- all claims have every place that has all votes
          have hall : ∀ p, votes (mkL off bs ps k) p = k → ∀ c ∈ mkL off bs ps k, hasB p c = true := fun p hpv c hc => by
            unfold votes at hpv
            have : (mkL off bs ps k).countP (hasB p) = (mkL off bs ps k).length := by rw [mkL_len]; omega
            exact List.countP_eq_length.1 this c hc
          have hvoff : votes (mkL off bs ps k) off = k := by rw [mkL_votes bs hp k, hrk]
          refine ⟨?_, ?_⟩
          · rcases Int.lt_or_le off l with h3 | h3
            · have := hlt off h3; omega
            · exact h3
          · rcases Int.lt_or_le h' off with h3 | h3
            · exfalso
              apply hout
              have hhi := hin h' hlh (Int.le_refl _)
              unfold votes
              have : (mkL off bs ps k).countP (hasB (h' + 1)) = (mkL off bs ps k).length := by
                rw [List.countP_eq_length]
                intro c hc
                have a1 := (hasB_iff _ _).1 (hall h' (by omega) c hc)
                have a2 := (hasB_iff _ _).1 (hall off hvoff c hc)
                rw [hasB_iff]; omega
              rw [this, mkL_len]; omega
            · exact h3
end Go.Proofs.Ytgmgofcclddkiaa
