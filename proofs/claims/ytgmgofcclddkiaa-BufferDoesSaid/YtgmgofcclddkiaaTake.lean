/- The buffer's Take: an interval's texts in their order, which lie there no more; for every buffer and interval. -/
import Derived.Test.YtgmgofcclddkiaaTa
namespace Go.Proofs.Ytgmgofcclddkiaa
open Go.RowKit Go.Maps Go.WideShapes

def takeL (L : Things) (i : Int) : Things := L.filter (fun p => !(p.1 == i))
theorem mem_takeL (L : Things) (i : Int) (q : Int × ByteArray) : q ∈ takeL L i ↔ q ∈ L ∧ q.1 ≠ i := by
  unfold takeL; simp [List.mem_filter]
theorem hasI_takeL (L : Things) (i j : Int) : hasI (takeL L i) j = true ↔ hasI L j = true ∧ j ≠ i := by
  rw [hasI_iff, hasI_iff]
  constructor
  · rintro ⟨t, ht⟩
    obtain ⟨h1, h2⟩ := (mem_takeL L i _).1 ht
    exact ⟨⟨t, h1⟩, h2⟩
  · rintro ⟨⟨t, ht⟩, h2⟩
    exact ⟨t, (mem_takeL L i _).2 ⟨ht, h2⟩⟩
theorem texts_takeL (L : Things) {i j : Int} (h : j ≠ i) : texts (takeL L i) j = texts L j := by
  unfold texts takeL
  rw [List.filter_filter]
  congr 1
  refine List.filter_congr (fun p _ => ?_)
  by_cases hp : p.1 = j
  · simp [hp, h]
  · simp [hp]
theorem texts_takeL_same (L : Things) (i : Int) : texts (takeL L i) i = [] := by
  refine texts_no (fun h => ?_)
  exact ((hasI_takeL L i i).1 h).2 rfl
theorem len_takeL (L : Things) (i : Int) : (takeL L i).length + (texts L i).length = L.length := by
  unfold takeL texts
  rw [List.length_map]
  have h := List.length_eq_countP_add_countP (fun p : Int × ByteArray => p.1 == i) (l := L)
  rw [List.countP_eq_length_filter, List.countP_eq_length_filter] at h
  have e : (L.filter (fun p => !(p.1 == i))) = (L.filter (fun p => decide ¬ ((p.1 == i) = true))) := by
    refine List.filter_congr (fun p _ => ?_)
    by_cases hq : p.1 = i <;> simp [hq]
  rw [e]; omega
theorem takeL_id {L : Things} {i : Int} (h : ¬ hasI L i = true) : takeL L i = L := by
  unfold takeL
  refine List.filter_eq_self.2 (fun p hp => ?_)
  simp only [Bool.not_eq_true', beq_eq_false_iff_ne]
  intro e
  exact h (List.any_eq_true.2 ⟨p, hp, by simp [e]⟩)
theorem len_ivs_le {L L' : Things} (h : ∀ j, hasI L' j = true → hasI L j = true) : (ivs L').length ≤ (ivs L).length := by
  have e : ivs L' = (ivs L).filter (fun j => hasI L' j) := by
    refine rise_ext (ivs_rise L') ((ivs_rise L).filter _) (fun j => ?_)
    rw [List.mem_filter, mem_ivs, mem_ivs]
    exact ⟨fun hj => ⟨h j hj, hj⟩, fun hj => hj.2⟩
  rw [e]; exact List.length_filter_le _ _
theorem Fine.filter {each room : Nat} {L : Things} (h : Fine each room L) (f : Int × ByteArray → Bool) : Fine each room (L.filter f) where
  b1 := h.b1
  b2 := h.b2
  b3 := h.b3
  b4 := h.b4
  nodup := h.nodup.filter _
  pos := fun p hp => h.pos p (List.mem_filter.1 hp).1
  small := fun p hp => h.small p (List.mem_filter.1 hp).1
  full := fun i => by
    refine Nat.le_trans ?_ (h.full i)
    unfold texts
    rw [List.length_map, List.length_map]
    exact (List.filter_sublist.filter _).length_le
  many := by
    refine Nat.le_trans (len_ivs_le (fun j hj => ?_)) h.many
    obtain ⟨t, ht⟩ := (hasI_iff _ j).1 hj
    exact (hasI_iff L j).2 ⟨t, (List.mem_filter.1 ht).1⟩
theorem slotG_takeL (L : Things) (i : Int) (fc fs : Int → Nat) (l : Lit) : slotG (takeL L i) fc fs l = upd (slotG L fc fs) (.int .i64 i) none l := by
  by_cases h : l = .int .i64 i
  · subst h
    rw [upd_same]
    have : ¬ hasI (takeL L i) i = true := fun hh => ((hasI_takeL L i i).1 hh).2 rfl
    simp only [slotG]; rw [if_neg this]
  · rw [upd_other _ h]
    unfold slotG
    split
    · rename_i j
      have hj : j ≠ i := fun e => h (by rw [e])
      by_cases hh : hasI L j = true
      · rw [if_pos ((hasI_takeL L i j).2 ⟨hh, hj⟩), if_pos hh]
      · rw [if_neg (fun h2 => hh ((hasI_takeL L i j).1 h2).1), if_neg hh]
    · rfl

/-- what Take leaves behind -/
def TakePost (w : World) (p : Nat) (F : Nat → Prop) (each room : Nat) (L : Things) (dr : Int) (i : Int) (e : Ending) (w' : World) : Prop :=
  ∃ v, e = .returned v ∧ w'.ownsRow w.heap.size 9 1 v (texts L i).length ((texts L i).map Value.string) ∧ (v = .slice none 0 0 ↔ texts L i = []) ∧
    Rep w' p F each room (takeL L i) dr ∧ Turned F w w'

theorem row_mono {w : World} {base base' : Nat} {e : TypeId} {size : Nat} {v : Value} {n : Nat} {xs : List Value} (h : w.ownsRow base e size v n xs) (hb : base' ≤ base) : w.ownsRow base' e size v n xs := by
  obtain ⟨h1, h2⟩ := h
  refine ⟨h1, h2.imp id ?_⟩
  rintro ⟨g, cap, cur, a, b, c⟩
  exact ⟨g, cap, cur, a, Nat.le_trans hb b, c⟩

theorem take_any {w : World} {p : Nat} {F : Nat → Prop} {each room : Nat} {L : Things} {dr : Int} (h : Rep w p F each room L dr) (i : Int)
    (h1 : -9223372036854775808 ≤ i) (h2 : i ≤ 9223372036854775807) (hL : L.length < 4611686018427387904) :
    Calls Try.prog 20 #[.pointer (some ⟨p, 0, none⟩), .int .i64 i] w (TakePost w p F each room L dr i) := by
  have hf := h.fine
  have hh := h
  obtain ⟨_, mb, fc, fs, g⟩ := hh
  have hl := g.look_ok i h1 h2
  by_cases hi : hasI L i = true
  · rw [if_pos hi, slotV, hi] at hl
    have hsl := g.each i hi
    obtain ⟨sn, rn, hc⟩ := hsl.chan
    have hfull := hf.full i
    have hb2 := hf.b2
    have hlen := len_takeL L i
    refine (take_some g.own i h1 h2 (fc i) (fs i) sn rn (texts L i) _ hl hc g.slots (by omega) (by omega) (by omega)).mono ?_
    rintro e w' ⟨v, rfl, R⟩
    obtain ⟨i1, i2, i3⟩ := g.inF
    have hcF := (i3 i hi).1
    have T : Turned F w w' := ⟨R.same.1, R.same.2.1, R.same.2.2.1, by have := R.same.2.2.2; omega, fun j hj hn => R.rest j hj (fun e => hn (e ▸ i1)) (fun e => hn (e ▸ i2)) (fun e => hn (e ▸ hcF))⟩
    have hrow := R.row
    rw [List.take_of_length_le (Nat.le_refl _)] at hrow
    refine ⟨v, rfl, row_mono hrow (by omega), ?_, ⟨hf.filter _, mb, fc, fs, ?_⟩, T⟩
    · rw [R.nil]; exact List.length_eq_zero_iff
    obtain ⟨es0, ck0, hsO⟩ := hsl.set.isObj
    refine ⟨?_, ?_, ?_, ?_, ?_, ?_, ?_⟩
    · rw [R.own]
      have : (L.length : Int) - ((texts L i).length : Int) = ((takeL L i).length : Int) := by omega
      rw [this]
    · have hm := (R.slots.congr (fun l => slotG_takeL L i fc fs l)).tight keyed3 (keysOf_nodup (takeL L i)) (keysOf_mem (takeL L i) fc fs)
      rw [keysOf_len] at hm; exact hm
    · intro j hj
      obtain ⟨hj', hne⟩ := (hasI_takeL L i j).1 hj
      show SlotOK w' each (texts (takeL L i) j) _ _
      rw [texts_takeL L hne]
      obtain ⟨x1, x2⟩ := g.apart i j hi hj' hne.symm
      obtain ⟨⟨sj, rj, y1⟩, y2⟩ := g.each j hj'
      obtain ⟨ej, kj, y3⟩ := y2.isObj
      obtain ⟨esm, ckm, hmO⟩ := g.slots.isObj
      exact (g.each j hj').kept (R.rest _ (g.ltF _ (i3 j hj').1) (fun e => by rw [e, g.own] at y1; cases y1) (chan_ne y1 hmO) x1.symm)
        (R.rest _ (g.ltF _ (i3 j hj').2) (fun e => by rw [e, g.own] at y3; cases y3) (g.apart2 j hj') (chan_ne hc y3).symm)
    · intro a b ha hb hab
      exact g.apart a b ((hasI_takeL L i a).1 ha).1 ((hasI_takeL L i b).1 hb).1 hab
    · intro a ha
      exact g.apart2 a ((hasI_takeL L i a).1 ha).1
    · exact ⟨i1, i2, fun a ha => i3 a ((hasI_takeL L i a).1 ha).1⟩
    · intro k hk
      have := g.ltF k hk
      have := R.same.2.2.2
      omega
  · have hi' : hasI L i = false := by simpa using hi
    rw [if_neg hi, slotZ, hi'] at hl
    refine (take_none g.own i hl).mono ?_
    rintro e w' ⟨rfl, rfl⟩
    refine ⟨_, rfl, ?_, ?_, ?_, (Turned.refl _ _).alloc _⟩
    · rw [texts_no hi]; exact World.ownsRow_nil _ _ _ _
    · rw [texts_no hi]; simp
    · rw [takeL_id hi]; exact h.alloc _
end Go.Proofs.Ytgmgofcclddkiaa
