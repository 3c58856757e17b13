/- Claims and edges as lists: votes by sums over edges; what the sweep over the edges finds; of each server the last claim. Plain lemmas, no program. -/
namespace Go.Proofs.Ytgmgofcclddkiaa

/-- a claim: its server, low, high -/
abbrev Clm := Int × Int × Int
/-- may a claim be? -/
def mayB (c : Clm) : Bool := decide (0 ≤ c.1) && decide (c.2.1 ≤ c.2.2) && decide (-1152921504606846976 ≤ c.2.1) && decide (c.2.2 ≤ 1152921504606846976)
theorem mayB_iff (c : Clm) : mayB c = true ↔ 0 ≤ c.1 ∧ c.2.1 ≤ c.2.2 ∧ -1152921504606846976 ≤ c.2.1 ∧ c.2.2 ≤ 1152921504606846976 := by
  unfold mayB; simp only [Bool.and_eq_true, decide_eq_true_eq]; constructor
  · rintro ⟨⟨⟨a, b⟩, c⟩, d⟩; exact ⟨a, b, c, d⟩
  · rintro ⟨a, b, c, d⟩; exact ⟨⟨⟨a, b⟩, c⟩, d⟩

/-! ### of each server the last claim -/
def lastStep (acc : List Clm) (c : Clm) : List Clm := acc.filter (fun x => !(x.1 == c.1)) ++ [c]
def lastOf (cs : List Clm) : List Clm := cs.foldl lastStep []
theorem lastOf_snoc (cs : List Clm) (c : Clm) : lastOf (cs ++ [c]) = lastStep (lastOf cs) c := by
  unfold lastOf; rw [List.foldl_append]; rfl
theorem lastStep_nodup {acc : List Clm} (h : (acc.map (·.1)).Nodup) (c : Clm) : ((lastStep acc c).map (·.1)).Nodup := by
  unfold lastStep
  rw [List.map_append, List.nodup_append]
  refine ⟨?_, by simp, ?_⟩
  · exact List.Sublist.nodup ((List.filter_sublist).map _) h
  · intro a ha b hb
    simp only [List.map_cons, List.map_nil, List.mem_singleton] at hb
    subst hb
    obtain ⟨x, hx, rfl⟩ := List.mem_map.1 ha
    have := (List.mem_filter.1 hx).2
    simp only [Bool.not_eq_true', beq_eq_false_iff_ne] at this
    exact this
theorem nodup_foldl : ∀ (cs acc : List Clm), (acc.map (·.1)).Nodup → ((cs.foldl lastStep acc).map (·.1)).Nodup
  | [], _, h => h
  | c :: cs, acc, h => by rw [List.foldl_cons]; exact nodup_foldl cs _ (lastStep_nodup h c)
theorem lastOf_nodup (cs : List Clm) : ((lastOf cs).map (·.1)).Nodup := nodup_foldl cs [] (by simp)
theorem mem_lastStep {acc : List Clm} {c x : Clm} (h : x ∈ lastStep acc c) : x ∈ acc ∨ x = c := by
  unfold lastStep at h
  rcases List.mem_append.1 h with h | h
  · exact .inl (List.mem_filter.1 h).1
  · exact .inr (by simpa using h)
theorem mem_foldl : ∀ (cs acc : List Clm) (x : Clm), x ∈ cs.foldl lastStep acc → x ∈ acc ∨ x ∈ cs
  | [], _, _, h => .inl h
  | c :: cs, acc, x, h => by
    rw [List.foldl_cons] at h
    rcases mem_foldl cs _ x h with h | h
    · rcases mem_lastStep h with h | h
      · exact .inl h
      · exact .inr (by rw [h]; exact List.mem_cons_self)
    · exact .inr (List.mem_cons_of_mem _ h)
theorem mem_lastOf {cs : List Clm} {x : Clm} (h : x ∈ lastOf cs) : x ∈ cs := by
  rcases mem_foldl cs [] x h with h | h
  · cases h
  · exact h
theorem length_lastStep (acc : List Clm) (c : Clm) : (lastStep acc c).length ≤ acc.length + 1 := by
  unfold lastStep; rw [List.length_append]; have := List.length_filter_le (fun x : Clm => !(x.1 == c.1)) acc; simp; omega
theorem length_foldl : ∀ (cs acc : List Clm), (cs.foldl lastStep acc).length ≤ acc.length + cs.length
  | [], _ => by simp
  | c :: cs, acc => by
    rw [List.foldl_cons]
    have h1 := length_foldl cs (lastStep acc c)
    have h2 := length_lastStep acc c
    simp only [List.length_cons]; omega
theorem length_lastOf (cs : List Clm) : (lastOf cs).length ≤ cs.length := by have := length_foldl cs []; simpa [lastOf] using this
/-- servers that are all distinct: each claim counts -/
theorem foldl_distinct : ∀ (cs acc : List Clm), ((acc ++ cs).map (·.1)).Nodup → cs.foldl lastStep acc = acc ++ cs
  | [], acc, _ => by simp
  | c :: cs, acc, h => by
    rw [List.foldl_cons]
    have e : lastStep acc c = acc ++ [c] := by
      unfold lastStep
      congr 1
      rw [List.filter_eq_self]
      intro x hx
      simp only [Bool.not_eq_true', beq_eq_false_iff_ne]
      intro e
      rw [List.map_append, List.map_cons, List.nodup_append] at h
      exact h.2.2 x.1 (List.mem_map_of_mem hx) c.1 (by simp) e
    rw [e, foldl_distinct cs (acc ++ [c]) (by simpa using h)]
    simp
theorem lastOf_distinct {cs : List Clm} (h : (cs.map (·.1)).Nodup) : lastOf cs = cs := by
  have := foldl_distinct cs [] (by simpa using h)
  simpa [lastOf] using this

/-! ### votes -/
def hasB (p : Int) (c : Clm) : Bool := decide (c.2.1 ≤ p) && decide (p ≤ c.2.2)
theorem hasB_iff (p : Int) (c : Clm) : hasB p c = true ↔ c.2.1 ≤ p ∧ p ≤ c.2.2 := by unfold hasB; simp
/-- a point's votes -/
def votes (L : List Clm) (p : Int) : Int := ((L.countP (hasB p) : Nat) : Int)
theorem votes_nonneg (L : List Clm) (p : Int) : 0 ≤ votes L p := by unfold votes; omega
theorem votes_le (L : List Clm) (p : Int) : votes L p ≤ L.length := by unfold votes; have := List.countP_le_length (p := hasB p) (l := L); omega

/-- how much the edges up to p make -/
def sumTo (es : List (Int × Int)) (p : Int) : Int := (es.map (fun x => if x.1 ≤ p then x.2 else 0)).sum
theorem sumTo_nil (p : Int) : sumTo [] p = 0 := rfl
theorem sumTo_cons (x : Int × Int) (es : List (Int × Int)) (p : Int) : sumTo (x :: es) p = (if x.1 ≤ p then x.2 else 0) + sumTo es p := by simp [sumTo]
theorem sumTo_append (es fs : List (Int × Int)) (p : Int) : sumTo (es ++ fs) p = sumTo es p + sumTo fs p := by simp [sumTo]
theorem sumTo_perm {es fs : List (Int × Int)} (h : es.Perm fs) (p : Int) : sumTo es p = sumTo fs p := by
  induction h with
  | nil => rfl
  | cons x _ ih => rw [sumTo_cons, sumTo_cons, ih]
  | swap x y l => simp only [sumTo_cons]; omega
  | trans _ _ a b => exact a.trans b
/-- the edges of a claim -/
def edgesOf (c : Clm) : List (Int × Int) := [(c.2.1, 1), (c.2.2 + 1, -1)]
theorem sumTo_edgesOf (c : Clm) (hc : c.2.1 ≤ c.2.2) (p : Int) : sumTo (edgesOf c) p = if hasB p c then 1 else 0 := by
  unfold edgesOf hasB
  simp only [sumTo_cons, sumTo_nil, Bool.and_eq_true, decide_eq_true_eq]
  split <;> split <;> (try split) <;> omega
theorem votes_cons (c : Clm) (L : List Clm) (p : Int) : votes (c :: L) p = (if hasB p c then 1 else 0) + votes L p := by
  unfold votes; rw [List.countP_cons]; split <;> simp_all <;> omega
theorem votes_append (L M : List Clm) (p : Int) : votes (L ++ M) p = votes L p + votes M p := by
  unfold votes; rw [List.countP_append]; omega
theorem votes_perm {L M : List Clm} (h : L.Perm M) (p : Int) : votes L p = votes M p := by unfold votes; rw [h.countP_eq]

/-! ### what the sweep finds -/
/-- the first stretch with the most votes -/
structure AgreeIs (L : List Clm) (low high v : Int) : Prop where
  most : ∀ p, votes L p ≤ v
  nonneg : 0 ≤ v
  ends : 0 < v → low ≤ high ∧ (∀ p, p < low → votes L p < v) ∧ (∀ p, low ≤ p → p ≤ high → votes L p = v) ∧ votes L (high + 1) ≠ v

theorem AgreeIs.at_low {L : List Clm} {low high v : Int} (h : AgreeIs L low high v) (hv : 0 < v) : votes L low = v := (h.ends hv).2.2.1 low (Int.le_refl _) (h.ends hv).1
theorem AgreeIs.at_high {L : List Clm} {low high v : Int} (h : AgreeIs L low high v) (hv : 0 < v) : votes L high = v := (h.ends hv).2.2.1 high (h.ends hv).1 (Int.le_refl _)
theorem AgreeIs.unique {L : List Clm} {l h v l' h' v' : Int} (a : AgreeIs L l h v) (b : AgreeIs L l' h' v') : v = v' ∧ (0 < v → l = l' ∧ h = h') := by
  have hv : v = v' := by
    rcases Int.lt_or_le 0 v with h0 | h0
    · rcases Int.lt_or_le 0 v' with h1 | h1
      · have := a.at_low h0; have := b.at_low h1; have := b.most l; have := a.most l'; omega
      · have := a.at_low h0; have := b.most l; omega
    · rcases Int.lt_or_le 0 v' with h1 | h1
      · have := b.at_low h1; have := a.most l'; omega
      · have := a.nonneg; have := b.nonneg; omega
  subst hv
  refine ⟨rfl, fun hp => ?_⟩
  obtain ⟨a1, a2, a3, a4⟩ := a.ends hp
  obtain ⟨b1, b2, b3, b4⟩ := b.ends hp
  have e : l = l' := by
    rcases Int.lt_trichotomy l l' with h | h | h
    · have := b2 l h; have := a.at_low hp; omega
    · exact h
    · have := a2 l' h; have := b.at_low hp; omega
  subst e
  refine ⟨rfl, ?_⟩
  rcases Int.lt_trichotomy h h' with x | x | x
  · exact absurd (b3 (h + 1) (by omega) (by omega)) a4
  · exact x
  · exact absurd (a3 (h' + 1) (by omega) (by omega)) b4

/-- a list of edges, each place once, rising -/
def Rising (E : List (Int × Int)) : Prop := E.Pairwise (fun a b => a.1 < b.1)
/-- the points that lie ahead of edge k -/
def seen (E : List (Int × Int)) (k : Nat) (p : Int) : Prop := ∀ x, E[k]? = some x → p < x.1
/-- what the first k edges make -/
def total (E : List (Int × Int)) (k : Nat) : Int := ((E.take k).map (·.2)).sum
theorem total_zero (E : List (Int × Int)) : total E 0 = 0 := rfl
theorem total_succ {E : List (Int × Int)} {k : Nat} (hk : k < E.length) : total E (k + 1) = total E k + E[k].2 := by
  unfold total; rw [List.take_succ_eq_append_getElem hk, List.map_append, List.sum_append]; simp

theorem sumTo_all {es : List (Int × Int)} {p : Int} (h : ∀ x ∈ es, x.1 ≤ p) : sumTo es p = (es.map (·.2)).sum := by
  unfold sumTo
  congr 1
  exact List.map_congr_left (fun x hx => if_pos (h x hx))
theorem sumTo_none {es : List (Int × Int)} {p : Int} (h : ∀ x ∈ es, p < x.1) : sumTo es p = 0 := by
  induction es with
  | nil => rfl
  | cons x es ih =>
    rw [sumTo_cons, if_neg (by have := h x List.mem_cons_self; omega), ih (fun y hy => h y (List.mem_cons_of_mem _ hy))]; rfl

/-- between edge k - 1 and edge k the sum is the first k edges' -/
theorem sumTo_between {E : List (Int × Int)} (hE : Rising E) (k : Nat) (hk : k ≤ E.length) (p : Int) (h1 : ∀ j (hj : j < k) , (E[j]'(by omega)).1 ≤ p) (h2 : seen E k p) : sumTo E p = total E k := by
  rw [← List.take_append_drop k E, sumTo_append, List.take_append_drop]
  rw [sumTo_all (es := E.take k), sumTo_none (es := E.drop k)]
  · unfold total; omega
  · intro x hx
    obtain ⟨i, hi, rfl⟩ := List.getElem_of_mem hx
    rw [List.getElem_drop]
    rw [List.length_drop] at hi
    have hk' : k < E.length := by omega
    have h0 := h2 E[k] (List.getElem?_eq_getElem hk')
    rcases Nat.eq_zero_or_pos i with e | e
    · subst e; simpa using h0
    · have := List.pairwise_iff_getElem.1 hE k (k + i) hk' (by omega) (by omega)
      omega
  · intro x hx
    obtain ⟨i, hi, rfl⟩ := List.getElem_of_mem hx
    rw [List.getElem_take]
    rw [List.length_take] at hi
    exact h1 i (by omega)

/-- the sweep behind k edges -/
structure Sweep (L : List Clm) (E : List (Int × Int)) (k : Nat) (low high v : Int) (opn : Bool) : Prop where
  nonneg : 0 ≤ v
  most : ∀ p, seen E k p → votes L p ≤ v
  none_ : v = 0 → opn = false
  begins : 0 < v → seen E k low ∧ votes L low = v ∧ ∀ p, p < low → votes L p < v
  opened : opn = true → ∀ p, seen E k p → low ≤ p → votes L p = v
  closed : opn = false → 0 < v → low ≤ high ∧ (∀ p, low ≤ p → p ≤ high → votes L p = v) ∧ seen E k (high + 1) ∧ votes L (high + 1) ≠ v

theorem seen_mono {E : List (Int × Int)} (hE : Rising E) {k : Nat} (hk : k < E.length) {p : Int} (h : seen E k p) : seen E (k + 1) p := by
  intro x hx
  have h0 := h E[k] (List.getElem?_eq_getElem hk)
  obtain ⟨hk2, rfl⟩ := List.getElem?_eq_some_iff.1 hx
  have := List.pairwise_iff_getElem.1 hE k (k + 1) hk hk2 (by omega)
  omega
theorem seen_new {E : List (Int × Int)} {k : Nat} (hk : k < E.length) {p : Int} (hn : ¬ seen E k p) : E[k].1 ≤ p := by
  rcases Int.lt_or_le p E[k].1 with h0 | h0
  · exact absurd (fun x hx => by rw [List.getElem?_eq_getElem hk] at hx; cases hx; exact h0) hn
  · exact h0

section
variable {L : List Clm} {E : List (Int × Int)} (hE : Rising E) (hS : ∀ p, sumTo E p = votes L p) {k : Nat} (hk : k < E.length) {low high v : Int} {opn : Bool}
include hE hS hk
/-- the points that edge k brings -/
theorem votes_new {p : Int} (h : seen E (k + 1) p) (hp : E[k].1 ≤ p) : votes L p = total E (k + 1) := by
  rw [← hS]
  refine sumTo_between hE (k + 1) (by omega) p (fun j hj => ?_) h
  rcases Nat.lt_or_eq_of_le (Nat.le_of_lt_succ hj) with h1 | h1
  · have := List.pairwise_iff_getElem.1 hE j k (by omega) hk h1; omega
  · subst h1; exact hp
omit hS in
theorem seen_at : seen E (k + 1) E[k].1 := by
  intro x hx
  obtain ⟨hk2, rfl⟩ := List.getElem?_eq_some_iff.1 hx
  exact List.pairwise_iff_getElem.1 hE k (k + 1) hk hk2 (by omega)
omit hE hS in
theorem seen_ahead : seen E k (E[k].1 - 1) := by
  intro x hx
  rw [List.getElem?_eq_getElem hk] at hx
  cases hx; omega
theorem votes_ahead : votes L (E[k].1 - 1) = total E k := by
  rw [← hS]
  refine sumTo_between hE k (by omega) _ (fun j hj => ?_) (seen_ahead hk)
  have := List.pairwise_iff_getElem.1 hE j k (by omega) hk hj
  omega

/-- an edge that changes nothing -/
theorem Sweep.stay (h : Sweep L E k low high v opn) (hm : E[k].2 = 0) : Sweep L E (k + 1) low high v opn := by
  have ht : total E (k + 1) = total E k := by rw [total_succ hk, hm]; omega
  have hv : total E k ≤ v := by rw [← votes_ahead hE hS hk]; exact h.most _ (seen_ahead hk)
  refine ⟨h.nonneg, fun p hp => ?_, h.none_, fun h0 => ?_, fun ho p hp hl => ?_, fun ho h0 => ?_⟩
  · by_cases hs : seen E k p
    · exact h.most p hs
    · rw [votes_new hE hS hk hp (seen_new hk hs), ht]; exact hv
  · exact ⟨seen_mono hE hk (h.begins h0).1, (h.begins h0).2⟩
  · by_cases hs : seen E k p
    · exact h.opened ho p hs hl
    · rw [votes_new hE hS hk hp (seen_new hk hs), ht, ← votes_ahead hE hS hk]
      have h0 : 0 < v := by
        rcases Int.lt_or_le 0 v with h0 | h0
        · exact h0
        · have := h.none_ (by have := h.nonneg; omega); rw [ho] at this; cases this
      have hlow := (h.begins h0).1 E[k] (List.getElem?_eq_getElem hk)
      exact h.opened ho _ (seen_ahead hk) (by omega)
  · obtain ⟨a, b, c, d⟩ := h.closed ho h0
    exact ⟨a, b, seen_mono hE hk c, d⟩

/-- an edge with more votes than any ahead of it -/
theorem Sweep.raise (h : Sweep L E k low high v opn) (hm : v < total E (k + 1)) : Sweep L E (k + 1) E[k].1 high (total E (k + 1)) true := by
  have hn := h.nonneg
  have hat : votes L E[k].1 = total E (k + 1) := votes_new hE hS hk (seen_at hE hk) (Int.le_refl _)
  refine ⟨by omega, fun p hp => ?_, fun h0 => by omega, fun _ => ⟨seen_at hE hk, hat, fun p hp => ?_⟩, fun _ p hp hl => votes_new hE hS hk hp hl, fun ho => by cases ho⟩
  · by_cases hs : seen E k p
    · have := h.most p hs; omega
    · rw [votes_new hE hS hk hp (seen_new hk hs)]; exact Int.le_refl _
  · have := h.most p (fun x hx => by rw [List.getElem?_eq_getElem hk] at hx; cases hx; exact hp)
    omega

/-- an edge that ends the stretch -/
theorem Sweep.close (h : Sweep L E k low high v true) (hm : E[k].2 ≠ 0) (hv : ¬ v < total E (k + 1)) : Sweep L E (k + 1) low (E[k].1 - 1) v false := by
  have h0 : 0 < v := by
    rcases Int.lt_or_le 0 v with h0 | h0
    · exact h0
    · have := h.none_ (by have := h.nonneg; omega); cases this
  have hlow := (h.begins h0).1 E[k] (List.getElem?_eq_getElem hk)
  have hat : votes L E[k].1 = total E (k + 1) := votes_new hE hS hk (seen_at hE hk) (Int.le_refl _)
  have hah : total E k = v := by rw [← votes_ahead hE hS hk]; exact h.opened rfl _ (seen_ahead hk) (by omega)
  refine ⟨h.nonneg, fun p hp => ?_, fun _ => rfl, fun _ => ⟨seen_mono hE hk (h.begins h0).1, (h.begins h0).2⟩, fun ho => (by cases ho), fun _ _ => ⟨by omega, fun p h1 h2 => ?_, ?_, ?_⟩⟩
  · by_cases hs : seen E k p
    · exact h.most p hs
    · rw [votes_new hE hS hk hp (seen_new hk hs)]; omega
  · exact h.opened rfl p (fun x hx => by rw [List.getElem?_eq_getElem hk] at hx; cases hx; omega) h1
  · rw [show E[k].1 - 1 + 1 = E[k].1 by omega]; exact seen_at hE hk
  · rw [show E[k].1 - 1 + 1 = E[k].1 by omega, hat, total_succ hk, hah]; omega

/-- an edge behind the stretch -/
theorem Sweep.pass (h : Sweep L E k low high v false) (hv : ¬ v < total E (k + 1)) : Sweep L E (k + 1) low high v false := by
  refine ⟨h.nonneg, fun p hp => ?_, fun _ => rfl, fun h0 => ⟨seen_mono hE hk (h.begins h0).1, (h.begins h0).2⟩, fun ho => (by cases ho), fun _ h0 => ?_⟩
  · by_cases hs : seen E k p
    · exact h.most p hs
    · rw [votes_new hE hS hk hp (seen_new hk hs)]; omega
  · obtain ⟨a, b, c, d⟩ := h.closed rfl h0
    exact ⟨a, b, seen_mono hE hk c, d⟩
end

theorem Sweep.start {L : List Clm} {E : List (Int × Int)} (hE : Rising E) (hS : ∀ p, sumTo E p = votes L p) : Sweep L E 0 0 0 0 false := by
  have h0 : ∀ p, seen E 0 p → votes L p = 0 := fun p hp => by
    rw [← hS, sumTo_between hE 0 (Nat.zero_le _) p (fun j hj => absurd hj (by omega)) hp]; rfl
  exact ⟨Int.le_refl _, fun p hp => by rw [h0 p hp]; exact Int.le_refl _, fun _ => rfl, fun h => by omega, fun h => (by cases h), fun _ h => by omega⟩

/-- behind all edges -/
theorem Sweep.done {L : List Clm} {E : List (Int × Int)} {low high v : Int} {opn : Bool} (h : Sweep L E E.length low high v opn) : AgreeIs L low high v := by
  have hs : ∀ p, seen E E.length p := fun p x hx => by rw [List.getElem?_eq_none (Nat.le_refl _)] at hx; cases hx
  refine ⟨fun p => h.most p (hs p), h.nonneg, fun h0 => ?_⟩
  have ho : opn = false := by
    cases opn with
    | false => rfl
    | true =>
      exfalso
      -- far behind all claims there are no votes
      have hfar : ∃ p, low ≤ p ∧ votes L p = 0 := by
        have : ∀ M : List Clm, ∃ q, ∀ p, q ≤ p → votes M p = 0 := by
          intro M
          induction M with
          | nil => exact ⟨0, fun p _ => rfl⟩
          | cons c M ih =>
            obtain ⟨q, hq⟩ := ih
            refine ⟨max q (c.2.2 + 1), fun p hp => ?_⟩
            rw [votes_cons, hq p (by omega), if_neg (by rw [hasB_iff]; omega)]; rfl
        obtain ⟨q, hq⟩ := this L
        exact ⟨max low q, by omega, hq _ (by omega)⟩
      obtain ⟨p, hp, hz⟩ := hfar
      have := h.opened rfl p (hs p) hp
      omega
  subst ho
  obtain ⟨a, b, _, d⟩ := h.closed rfl h0
  exact ⟨a, (h.begins h0).2.2, b, d⟩
end Go.Proofs.Ytgmgofcclddkiaa
