/- Edges that are merged place by place; the claims that a range over the map has met. Plain lemmas. -/
import Derived.Test.YtgmgofcclddkiaaCuL
namespace Go.Proofs.Ytgmgofcclddkiaa

/-- the first k of the sorted edges ys, each place once -/
structure Merged (ys : List (Int × Int)) (k : Nat) (out : List (Int × Int)) : Prop where
  rise : Rising out
  sum : ∀ p, sumTo out p = sumTo (ys.take k) p
  small : ∀ x ∈ out, -(k : Int) ≤ x.2 ∧ x.2 ≤ k
  len : out.length ≤ k
  last : 0 < k → ∃ o a m, out = o ++ [(a, m)] ∧ ∀ y, ys[k - 1]? = some y → y.1 = a

theorem Merged.start (ys : List (Int × Int)) : Merged ys 0 [] := ⟨List.Pairwise.nil, fun _ => rfl, by simp, Nat.le_refl _, fun h => absurd h (by omega)⟩

section
variable {ys : List (Int × Int)} {k : Nat} (hk : k < ys.length) (h1 : ∀ x ∈ ys, x.2 = 1 ∨ x.2 = -1)
include hk h1

theorem Merged.join {o : List (Int × Int)} {a m : Int} (h : Merged ys k (o ++ [(a, m)])) (he : a = ys[k].1) : Merged ys (k + 1) (o ++ [(a, m + ys[k].2)]) := by
  have hx := h1 ys[k] (List.getElem_mem hk)
  have hm := h.small (a, m) (by simp)
  refine ⟨?_, fun p => ?_, fun x hx' => ?_, ?_, fun _ => ⟨o, a, _, rfl, fun y hy => ?_⟩⟩
  · have := h.rise
    unfold Rising at this ⊢
    rw [List.pairwise_append] at this ⊢
    refine ⟨this.1, by simp, fun x hx y hy => ?_⟩
    have := this.2.2 x hx (a, m) (by simp)
    simp only [List.mem_singleton] at hy
    subst hy; exact this
  · rw [List.take_succ_eq_append_getElem hk, sumTo_append (ys.take k), ← h.sum p, sumTo_append, sumTo_append]
    simp only [sumTo_cons, sumTo_nil, ← he]
    split <;> omega
  · rcases List.mem_append.1 hx' with h' | h'
    · have := h.small x (List.mem_append.2 (.inl h')); omega
    · simp only [List.mem_singleton] at h'
      subst h'
      simp only at hm ⊢
      rcases hx with e | e <;> rw [e] <;> omega
  · have := h.len; simp at this ⊢; omega
  · rw [Nat.add_sub_cancel, List.getElem?_eq_getElem hk] at hy
    cases hy; exact he.symm

theorem Merged.push (hs : ys.Pairwise (fun a b => a.1 ≤ b.1)) {out : List (Int × Int)} (h : Merged ys k out) (hne : ∀ o a m, out = o ++ [(a, m)] → a ≠ ys[k].1) : Merged ys (k + 1) (out ++ [ys[k]]) := by
  have hx := h1 ys[k] (List.getElem_mem hk)
  refine ⟨?_, fun p => ?_, fun x hx' => ?_, ?_, fun _ => ⟨out, ys[k].1, ys[k].2, rfl, fun y hy => ?_⟩⟩
  · unfold Rising
    rw [List.pairwise_append]
    refine ⟨h.rise, by simp, fun x hx y hy => ?_⟩
    simp only [List.mem_singleton] at hy
    subst hy
    have hk0 : 0 < k := by
      rcases Nat.eq_zero_or_pos k with e | e
      · have := h.len; rw [e] at this
        have : out = [] := List.eq_nil_of_length_eq_zero (by omega)
        rw [this] at hx; cases hx
      · exact e
    obtain ⟨o, a, m, ho, hy⟩ := h.last hk0
    have hya := hy ys[k - 1] (List.getElem?_eq_getElem (by omega))
    have hle := List.pairwise_iff_getElem.1 hs (k - 1) k (by omega) hk (by omega)
    have hne' := hne o a m ho
    have hxa : x.1 ≤ a := by
      rw [ho] at hx
      rcases List.mem_append.1 hx with h' | h'
      · have := h.rise
        unfold Rising at this
        rw [ho, List.pairwise_append] at this
        have := this.2.2 x h' (a, m) (by simp)
        simp only at this; omega
      · simp only [List.mem_singleton] at h'; rw [h']; exact Int.le_refl _
    omega
  · rw [List.take_succ_eq_append_getElem hk, sumTo_append (ys.take k), ← h.sum p, sumTo_append]
  · rcases List.mem_append.1 hx' with h' | h'
    · have := h.small x h'; omega
    · simp only [List.mem_singleton] at h'
      subst h'
      rcases hx with e | e <;> rw [e] <;> omega
  · have := h.len; simp; omega
  · rw [Nat.add_sub_cancel, List.getElem?_eq_getElem hk] at hy
    cases hy; rfl
end

/-! ### the claims that a range has met -/
/-- those that are no more to come -/
def met (L : List Clm) (lt : Int → Bool) : List Clm := L.filter (fun c => !lt c.1)
theorem met_none {L : List Clm} {lt : Int → Bool} (h : ∀ c ∈ L, lt c.1 = true) : met L lt = [] := by
  unfold met; rw [List.filter_eq_nil_iff]; intro c hc; simp [h c hc]
theorem met_all {L : List Clm} {lt : Int → Bool} (h : ∀ i, lt i = false) : met L lt = L := by
  unfold met; rw [List.filter_eq_self]; intro c _; simp [h]
theorem met_next {L : List Clm} (hn : (L.map (·.1)).Nodup) {lt : Int → Bool} {c : Clm} (hc : c ∈ L) (hlt : lt c.1 = true) : (met L (fun j => lt j && !(j == c.1))).Perm (met L lt ++ [c]) := by
  unfold met
  induction L with
  | nil => cases hc
  | cons x L ih =>
    rw [List.map_cons, List.nodup_cons] at hn
    rcases List.mem_cons.1 hc with e | hc'
    · subst e
      have e2 : L.filter (fun y : Clm => !(lt y.1 && !(y.1 == c.1))) = L.filter (fun y => !lt y.1) := by
        apply List.filter_congr
        intro y hy
        have : (y.1 == c.1) = false := by
          simp only [beq_eq_false_iff_ne]; intro e; exact hn.1 (by rw [← e]; exact List.mem_map_of_mem hy)
        simp [this]
      rw [List.filter_cons, List.filter_cons, e2]
      simp only [hlt, beq_self_eq_true, Bool.not_true, Bool.and_false, Bool.not_false, if_true, Bool.false_eq_true, if_false]
      exact (List.perm_append_comm (l₁ := [c])).trans (List.Perm.refl _)
    · have hne : (x.1 == c.1) = false := by
        simp only [beq_eq_false_iff_ne]; intro e; exact hn.1 (by rw [e]; exact List.mem_map_of_mem hc')
      have := ih hn.2 hc'
      rw [List.filter_cons, List.filter_cons]
      simp only [hne, Bool.not_false, Bool.and_true]
      split
      · exact (this.cons x)
      · exact this
theorem met_length_le (L : List Clm) (lt : Int → Bool) : (met L lt).length ≤ L.length := List.length_filter_le _ _

/-- the edges that a range over the map has made -/
structure Made (L : List Clm) (lt : Int → Bool) (es : List (Int × Int)) : Prop where
  len : es.length = 2 * (met L lt).length
  sum : ∀ p, sumTo es p = votes (met L lt) p
  one : ∀ x ∈ es, x.2 = 1 ∨ x.2 = -1
theorem Made.start {L : List Clm} {lt : Int → Bool} (h : ∀ c ∈ L, lt c.1 = true) : Made L lt [] := ⟨by rw [met_none h]; rfl, fun p => by rw [met_none h]; rfl, by simp⟩
theorem Made.next {L : List Clm} (hn : (L.map (·.1)).Nodup) {lt : Int → Bool} {es : List (Int × Int)} (h : Made L lt es) {c : Clm} (hc : c ∈ L) (hle : c.2.1 ≤ c.2.2) (hlt : lt c.1 = true) :
    Made L (fun j => lt j && !(j == c.1)) (es ++ edgesOf c) := by
  have hp := met_next hn hc hlt
  refine ⟨?_, fun p => ?_, fun x hx => ?_⟩
  · rw [hp.length_eq, List.length_append, List.length_append, h.len]; simp [edgesOf]; omega
  · rw [sumTo_append, h.sum, votes_perm hp, votes_append, sumTo_edgesOf c hle p, votes_cons]
    simp [votes]
  · rcases List.mem_append.1 hx with h' | h'
    · exact h.one x h'
    · simp only [edgesOf, List.mem_cons, List.not_mem_nil, or_false] at h'
      rcases h' with rfl | rfl
      · exact .inl rfl
      · exact .inr rfl
end Go.Proofs.Ytgmgofcclddkiaa
