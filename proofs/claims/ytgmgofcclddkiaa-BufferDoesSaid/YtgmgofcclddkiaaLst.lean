/- The list of things: its texts, its intervals, what a thing more or an interval less does to them. -/
import Derived.Test.YtgmgofcclddkiaaBuf
namespace Go.Proofs.Ytgmgofcclddkiaa
open Go.RowKit Go.Maps Go.WideShapes

theorem texts_snoc (L : Things) (i : Int) (t : ByteArray) (j : Int) : texts (L ++ [(i, t)]) j = if i = j then texts L j ++ [t] else texts L j := by
  unfold texts
  rw [List.filter_append, List.map_append]
  by_cases h : i = j
  · rw [if_pos h]; simp [h]
  · rw [if_neg h]; simp [h]
theorem hasI_snoc (L : Things) (i : Int) (t : ByteArray) (j : Int) : hasI (L ++ [(i, t)]) j = (hasI L j || (i == j)) := by
  unfold hasI; rw [List.any_append]; simp
theorem mem_insI {x y : Int} : ∀ {l : List Int}, y ∈ insI x l ↔ y = x ∨ y ∈ l
  | [] => by simp [insI]
  | a :: r => by
    unfold insI
    split
    · simp
    · split
      · rename_i h; subst h; simp
      · simp only [List.mem_cons, mem_insI (l := r)]
        constructor
        · rintro (h | h | h) <;> simp [h]
        · rintro (h | h | h) <;> simp [h]
theorem rise_insI {x : Int} : ∀ {l : List Int}, l.Pairwise (· < ·) → (insI x l).Pairwise (· < ·)
  | [], _ => by simp [insI]
  | a :: r, h => by
    obtain ⟨h1, h2⟩ := List.pairwise_cons.1 h
    unfold insI
    split
    · rename_i hx
      exact List.pairwise_cons.2 ⟨fun b hb => by
        rcases List.mem_cons.1 hb with rfl | hb
        · exact hx
        · have := h1 b hb; omega, h⟩
    · split
      · exact h
      · rename_i hx hne
        refine List.pairwise_cons.2 ⟨fun b hb => ?_, rise_insI h2⟩
        rcases mem_insI.1 hb with rfl | hb
        · omega
        · exact h1 b hb
theorem len_insI {x : Int} : ∀ {l : List Int}, l.Pairwise (· < ·) → (insI x l).length = if x ∈ l then l.length else l.length + 1
  | [], _ => by simp [insI]
  | a :: r, h => by
    obtain ⟨h1, h2⟩ := List.pairwise_cons.1 h
    unfold insI
    split
    · rename_i hx
      rw [if_neg]
      · rfl
      · intro hm
        rcases List.mem_cons.1 hm with rfl | hm
        · omega
        · have := h1 x hm; omega
    · split
      · rename_i hne; subst hne; rw [if_pos (by simp)]
      · rename_i hx hne
        have ih := len_insI (x := x) h2
        rw [List.length_cons, ih]
        by_cases hm : x ∈ r
        · rw [if_pos hm, if_pos (by simp [hm])]; rfl
        · rw [if_neg hm, if_neg (by simp [hm, hne])]; rfl
theorem ivs_snoc (L : Things) (i : Int) (t : ByteArray) : ivs (L ++ [(i, t)]) = insI i (ivs L) := by
  unfold ivs; rw [List.foldl_append]; rfl
theorem snoc_ind {P : Things → Prop} (h0 : P []) (h1 : ∀ L i t, P L → P (L ++ [(i, t)])) (L : Things) : P L := by
  have : ∀ n (L : Things), L.length = n → P L := by
    intro n
    induction n with
    | zero => intro L hL; rw [List.eq_nil_of_length_eq_zero hL]; exact h0
    | succ n ih =>
      intro L hL
      have hne : L ≠ [] := fun e => by rw [e] at hL; cases hL
      have e := List.dropLast_concat_getLast hne
      rw [← e]
      obtain ⟨i, t⟩ := L.getLast hne
      exact h1 _ _ _ (ih _ (by simp; omega))
  exact this _ L rfl
theorem ivs_rise (L : Things) : (ivs L).Pairwise (· < ·) := by
  induction L using snoc_ind with
  | h0 => exact List.Pairwise.nil
  | h1 L i t ih => rw [ivs_snoc]; exact rise_insI ih
theorem mem_ivs (L : Things) (j : Int) : j ∈ ivs L ↔ hasI L j = true := by
  induction L using snoc_ind with
  | h0 => simp [ivs, hasI]
  | h1 L i t ih =>
    rw [ivs_snoc, mem_insI, hasI_snoc, ih]
    simp only [Bool.or_eq_true, beq_iff_eq]
    constructor
    · rintro (h | h)
      · exact .inr h.symm
      · exact .inl h
    · rintro (h | h)
      · exact .inr h
      · exact .inl h.symm
theorem ivs_nodup (L : Things) : (ivs L).Nodup := (ivs_rise L).imp (fun h => by omega)
theorem len_ivs_snoc (L : Things) (i : Int) (t : ByteArray) : (ivs (L ++ [(i, t)])).length = if hasI L i = true then (ivs L).length else (ivs L).length + 1 := by
  rw [ivs_snoc, len_insI (ivs_rise L)]
  by_cases h : hasI L i = true
  · rw [if_pos h, if_pos ((mem_ivs L i).2 h)]
  · rw [if_neg h, if_neg (fun hm => h ((mem_ivs L i).1 hm))]
/-- a rising list is what its members make it -/
theorem rise_ext : ∀ {a b : List Int}, a.Pairwise (· < ·) → b.Pairwise (· < ·) → (∀ x, x ∈ a ↔ x ∈ b) → a = b := by
  intro a b ha hb h
  refine List.Perm.eq_of_pairwise (le := (· < ·)) (fun x y _ _ h1 h2 => by omega) ha hb ?_
  exact (List.perm_ext_iff_of_nodup (ha.imp (fun h => by omega)) (hb.imp (fun h => by omega))).2 h
/-- the keys of the slots -/
def keysOf (L : Things) : List Lit := (ivs L).map (.int .i64 ·)
theorem keysOf_nodup (L : Things) : (keysOf L).Nodup := by
  unfold keysOf
  refine List.pairwise_map.2 ((ivs_nodup L).imp (fun h e => h ?_))
  simpa using e
theorem keysOf_mem (L : Things) (fc fs : Int → Nat) (l : Lit) : l ∈ keysOf L ↔ (slotG L fc fs l).isSome = true := by
  unfold keysOf
  rw [List.mem_map]
  constructor
  · rintro ⟨i, hi, rfl⟩
    simp only [slotG]
    rw [if_pos ((mem_ivs L i).1 hi)]; rfl
  · intro h
    unfold slotG at h
    split at h
    · rename_i i
      split at h
      · rename_i hi; exact ⟨i, (mem_ivs L i).2 hi, rfl⟩
      · cases h
    · cases h
theorem keysOf_len (L : Things) : (keysOf L).length = (ivs L).length := by simp [keysOf]

/-! ### what a thing more does to the sets and the slots -/
theorem setG_snoc (ts : List ByteArray) (t : ByteArray) (l : Lit) : setG (ts ++ [t]) l = upd (setG ts) (.string t.data.toList) (some (.bool true)) l := by
  by_cases h : l = .string t.data.toList
  · subst h; rw [upd_same]; simp [setG]
  · rw [upd_other _ h]
    cases l with
    | string x =>
      have hx : x ≠ t.data.toList := fun e => h (by rw [e])
      simp only [setG, List.map_append, List.map_cons, List.map_nil, List.mem_append, List.mem_singleton, hx, or_false]
    | _ => rfl
theorem slotG_snoc_old {L : Things} {i : Int} (hi : hasI L i = true) (t : ByteArray) (fc fs : Int → Nat) (l : Lit) : slotG (L ++ [(i, t)]) fc fs l = slotG L fc fs l := by
  unfold slotG
  split
  · rename_i j
    rw [hasI_snoc]
    by_cases hj : i = j
    · subst hj; simp [hi]
    · simp [hj]
  · rfl
def fset (f : Int → Nat) (i : Int) (n : Nat) : Int → Nat := fun j => if j = i then n else f j
theorem fset_same (f : Int → Nat) (i : Int) (n : Nat) : fset f i n i = n := if_pos rfl
theorem fset_other (f : Int → Nat) {i j : Int} (h : j ≠ i) (n : Nat) : fset f i n j = f j := if_neg h
theorem slotG_snoc_new {L : Things} {i : Int} (t : ByteArray) (fc fs : Int → Nat) (c s : Nat) (l : Lit) :
    slotG (L ++ [(i, t)]) (fset fc i c) (fset fs i s) l = upd (slotG L fc fs) (.int .i64 i) (some (slotV c s)) l := by
  by_cases h : l = .int .i64 i
  · subst h; rw [upd_same]; simp [slotG, hasI_snoc, fset_same]
  · rw [upd_other _ h]
    unfold slotG
    split
    · rename_i j
      have hj : j ≠ i := fun e => h (by rw [e])
      have hj' : ¬ i = j := fun e => hj e.symm
      rw [hasI_snoc, fset_other _ hj, fset_other _ hj]
      simp [hj']
    · rfl

/-! ### Put, on the list -/
noncomputable def putE (each room : Nat) (L : Things) (i : Int) (t : ByteArray) : Int :=
  if i < 1 then 1 else if hasT L i t = true then 11 else if hasI L i = true then (if (texts L i).length < each then 0 else 4) else (if (ivs L).length < room then 0 else 4)
noncomputable def putL (each room : Nat) (L : Things) (i : Int) (t : ByteArray) : Things := if putE each room L i t = 0 then L ++ [(i, t)] else L
noncomputable def putD (each room : Nat) (L : Things) (i : Int) (t : ByteArray) (dr : Int) : Int := if putE each room L i t = 4 then dr + 1 else dr

theorem texts_no {L : Things} {i : Int} (h : ¬ hasI L i = true) : texts L i = [] := by
  unfold texts
  rw [List.map_eq_nil_iff, List.filter_eq_nil_iff]
  intro p hp he
  exact h (List.any_eq_true.2 ⟨p, hp, he⟩)
theorem texts_pos {L : Things} {i : Int} (h : hasI L i = true) : 0 < (texts L i).length := by
  obtain ⟨t, ht⟩ := (hasI_iff L i).1 h
  exact List.length_pos_of_mem ((mem_texts L i t).2 ht)

/-- the list stays fine by a thing that may come -/
theorem Fine.snoc {each room : Nat} {L : Things} (h : Fine each room L) {i : Int} {t : ByteArray} (h1 : 1 ≤ i) (h2 : i ≤ 9223372036854775807) (ht : t.size ≤ maxLen)
    (hn : ¬ hasT L i t = true) (hr : (texts L i).length < each) (hm : hasI L i = true ∨ (ivs L).length < room) : Fine each room (L ++ [(i, t)]) where
  b1 := h.b1
  b2 := h.b2
  b3 := h.b3
  b4 := h.b4
  nodup := by
    rw [List.nodup_append]
    refine ⟨h.nodup, by simp, fun a ha b hb e => ?_⟩
    simp only [List.mem_singleton] at hb
    subst hb; subst e
    exact hn ((hasT_iff L i t).2 ha)
  pos := fun p hp => by
    rcases List.mem_append.1 hp with hp | hp
    · exact h.pos p hp
    · simp only [List.mem_singleton] at hp; subst hp; exact ⟨h1, h2⟩
  small := fun p hp => by
    rcases List.mem_append.1 hp with hp | hp
    · exact h.small p hp
    · simp only [List.mem_singleton] at hp; subst hp; exact ht
  full := fun j => by
    rw [texts_snoc]
    split
    · rename_i e; subst e; simp; omega
    · exact h.full j
  many := by
    rw [len_ivs_snoc]
    have := h.many
    split
    · exact this
    · rename_i hi; rcases hm with hm | hm
      · exact absurd hm hi
      · omega
end Go.Proofs.Ytgmgofcclddkiaa
