/- The reference's buffer: Take, Drop. -/
import Derived.Test.YtgmgofcclddkiaaRpa
namespace Go.Proofs.Ytgmgofcclddkiaa
open Go.RowKit Go.Maps Go.WideShapes

theorem ref_set3 {w : World} {p : Nat} {a b c d d' : Value} {t : TypeId} (h : w.heap[p]? = some (.cells #[a, b, c, d] t (0, 0))) : (w.setCell ⟨p, 3, none⟩ d').heap[p]? = some (.cells #[a, b, c, d'] t (0, 0)) := by
  simp [World.setCell, Array.getElem?_modify, h]
theorem ref_set2 {w : World} {p : Nat} {a b c c' d : Value} {t : TypeId} (h : w.heap[p]? = some (.cells #[a, b, c, d] t (0, 0))) : (w.setCell ⟨p, 2, none⟩ c').heap[p]? = some (.cells #[a, b, c', d] t (0, 0)) := by
  simp [World.setCell, Array.getElem?_modify, h]

theorem partIn_same (L : Things) (i : Int) : partIn i i L = texts L i := by
  unfold partIn texts
  congr 1
  refine List.filter_congr (fun q _ => ?_)
  rw [Bool.eq_iff_iff]; simp [inP]; omega
theorem partOut_same (L : Things) (i : Int) : partOut i i L = takeL L i := by
  unfold partOut takeL
  refine List.filter_congr (fun q _ => ?_)
  rw [Bool.eq_iff_iff]; simp [inP]; omega
theorem partOut_drop {L : Things} (h : ∀ p ∈ L, 1 ≤ p.1) (b : Int) : partOut 1 (b - 1) L = dropL L b := by
  unfold partOut dropL
  refine List.filter_congr (fun q hq => ?_)
  have := h q hq
  rw [Bool.eq_iff_iff]; simp [inP]; omega
theorem partIn_len (lo hi : Int) (L : Things) : (partIn lo hi L).length + (partOut lo hi L).length = L.length := by
  unfold partIn partOut
  rw [List.length_map]
  induction L with
  | nil => rfl
  | cons q r ih =>
    simp only [List.filter_cons]
    cases inP lo hi q
    · simp; omega
    · simp; omega

section
variable {w w1 : World} {q each room : Nat} {L M : Things} {dr : Int} {v v' : Value}
/-- a new list is laid into the reference's buffer -/
theorem Ref.lay (h : Ref w q each room L dr v) (hb : Below w.heap.size w w1) (hrow : w1.ownsRow w.heap.size 77 2 v' M.length (flat M)) : Ref (w1.setCell ⟨q, 3, none⟩ v') q each room M dr v' := by
  have hq := (Array.getElem?_eq_some_iff.1 h.1).1
  refine ⟨ref_set3 ((hb.block q hq).trans h.1), row_keep (row_mono hrow (Nat.zero_le _)) (fun k hk => Below.heap_setCell _ _ _ _ ?_)⟩
  have := (row_lt hrow k hk).1
  show k ≠ q; omega
theorem ref_turn (hb : Below w.heap.size w w1) (x : Value) (c : Nat) : Turned (fun k => k = q) w (w1.setCell ⟨q, c, none⟩ x) := Turned.setCell (F := fun k => k = q) (p := ⟨q, c, none⟩) (Turned.of_below hb) (.inl rfl) x
end

def RTakeP (w : World) (q each room : Nat) (L : Things) (dr : Int) (i : Int) (e : Ending) (w' : World) : Prop :=
  ∃ u v', e = .returned u ∧ w'.ownsRow w.heap.size 9 1 u (texts L i).length ((texts L i).map Value.string) ∧ Ref w' q each room (takeL L i) dr v' ∧ (∀ k ∈ blockOf v', w.heap.size ≤ k) ∧ Turned (fun k => k = q) w w'
set_option maxRecDepth 100000 in
set_option maxHeartbeats 1000000 in
theorem rtake_any {w : World} {q each room : Nat} {L : Things} {dr : Int} {v : Value} (h : Ref w q each room L dr v) (hL : L.length < 1000000) (i : Int) :
    Calls Try.prog 21 #[.pointer (some ⟨q, 0, none⟩), .int .i64 i] w (RTakeP w q each room L dr i) := by
  have hq := (Array.getElem?_eq_some_iff.1 h.1).1
  have H := Lib.hid h
  have HP := Lib.hid (parted_any h hL i i)
  clear h
  go_enter Try.func21, Try.ntmps21
  go_wp2_with fail
  refine HP.out.mono ?_
  rintro e w1 ⟨u, v', rfl, hp⟩
  obtain ⟨av, cv, rfl⟩ := row_form hp.rowV
  have ho := (hp.below.block q hq).trans H.out.1
  have c3 := cell_of ho 3
  have f3 := frozen_of ho 3
  have HPP := Lib.hid hp
  clear ho hp
  go_wp2
  go_ret
  have hu := HPP.out.rowU
  have hv := HPP.out.rowV
  rw [partIn_same] at hu
  rw [partOut_same] at hv
  rw [partOut_same]
  refine ⟨u, _, rfl, row_keep hu (fun k hk => Below.heap_setCell _ _ _ _ ?_), H.out.lay HPP.out.below hv, fun k hk => (row_lt hv k hk).1, ref_turn HPP.out.below _ _⟩
  have := (row_lt hu k hk).1
  show k ≠ q; omega

def RDropP (w : World) (q each room : Nat) (L : Things) (dr : Int) (v : Value) (i : Int) (e : Ending) (w' : World) : Prop :=
  e = .returned (.int .i64 (L.length - (dropL L i).length)) ∧ ∃ v', Ref w' q each room (dropL L i) dr v' ∧ (v' = v ∨ ∀ k ∈ blockOf v', w.heap.size ≤ k) ∧ Turned (fun k => k = q) w w'
set_option maxRecDepth 100000 in
set_option maxHeartbeats 1000000 in
theorem rdrop_any {w : World} {q each room : Nat} {L : Things} {dr : Int} {v : Value} (h : Ref w q each room L dr v) (hL : L.length < 1000000) (hp : ∀ p ∈ L, 1 ≤ p.1) (i : Int) (hi : i ≤ 9223372036854775807) :
    Calls Try.prog 23 #[.pointer (some ⟨q, 0, none⟩), .int .i64 i] w (RDropP w q each room L dr v i) := by
  have hq := (Array.getElem?_eq_some_iff.1 h.1).1
  by_cases hb : i < 1
  · have e : dropL L i = L := by
      unfold dropL
      exact List.filter_eq_self.2 (fun q hq => by have := hp q hq; simp; omega)
    have H := Lib.hid h
    have HE := Lib.hid e
    clear h hp e
    go_enter Try.func23, Try.ntmps23
    go_wp2
    go_ret
    refine ⟨?_, v, by rw [HE.out]; exact H.out, .inl rfl, Turned.refl _ _⟩
    rw [HE.out]; simp
  · have hpl := partIn_len 1 (i - 1) L
    rw [partOut_drop hp] at hpl
    have H := Lib.hid h
    have HP := Lib.hid (parted_any h hL 1 (i - 1))
    have HO := Lib.hid (partOut_drop hp i)
    have HPL := Lib.hid hpl
    clear h hp hpl
    go_enter Try.func23, Try.ntmps23
    go_wp2_with fail
    refine HP.out.mono ?_
    rintro e w1 ⟨u, v', rfl, hp⟩
    obtain ⟨a, ca, rfl⟩ := row_form hp.rowU
    obtain ⟨av, cv, rfl⟩ := row_form hp.rowV
    have ho := (hp.below.block q hq).trans H.out.1
    have c3 := cell_of ho 3
    have f3 := frozen_of ho 3
    have HPP := Lib.hid hp
    clear ho hp
    go_wp2
    go_ret
    have hv := HPP.out.rowV
    rw [HO.out] at hv
    rw [HO.out]
    refine ⟨?_, _, H.out.lay HPP.out.below hv, .inr (fun k hk => (row_lt hv k hk).1), ref_turn HPP.out.below _ _⟩
    have := HPL.out
    have e : ((partIn 1 (i - 1) L).length : Int) = L.length - (dropL L i).length := by omega
    show Ending.returned (Value.int .i64 ((partIn 1 (i - 1) L).length : Int)) = _
    rw [e]
end Go.Proofs.Ytgmgofcclddkiaa
