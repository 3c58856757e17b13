/- The reference's buffer: parted, Take, Drop. -/
import Derived.Test.YtgmgofcclddkiaaRef
namespace Go.Proofs.Ytgmgofcclddkiaa
open Go.RowKit Go.Maps Go.WideShapes

theorem rows_apart {w : World} {b b' : Nat} {e e' : TypeId} {s s' : Nat} {v v' : Value} {n n' : Nat} {xs xs' : List Value} (h : w.ownsRow b e s v n xs) (h' : w.ownsRow b' e' s' v' n' xs') (he : e ≠ e') : v.ownBlock = none ∨ v.ownBlock ≠ v'.ownBlock := by
  rcases h.2 with ⟨rfl, _⟩ | ⟨g, cap, cur, rfl, _, hg, _⟩
  · exact .inl rfl
  · exact .inr (row_ne_cells h' hg he)
theorem cell_two_new (w : World) (x y : Value) (e : TypeId) : ∀ j u, [x, y][j]? = some u → (w.alloc (.cells #[x, y] e)).cell? ((⟨w.heap.size, 0, none⟩ : Addr).add j) = some u := by
  intro j u h
  rw [add_none, cell_of (MapKept.heap_alloc w _).1]
  rw [Nat.zero_add]
  simpa using h
theorem take_snoc {α : Type} {L : List α} {k : Nat} {x : α} (h : L[k]? = some x) : L.take (k + 1) = L.take k ++ [x] := by
  rw [List.take_add_one, h]; rfl

def inP (lo hi : Int) (q : Int × ByteArray) : Bool := decide (lo ≤ q.1) && decide (q.1 ≤ hi)
def partIn (lo hi : Int) (L : Things) : List ByteArray := (L.filter (inP lo hi)).map (·.2)
def partOut (lo hi : Int) (L : Things) : Things := L.filter (fun q => !inP lo hi q)
theorem partIn_yes {lo hi : Int} {L : Things} {k : Nat} {q : Int × ByteArray} (h : L[k]? = some q) (hp : inP lo hi q = true) : partIn lo hi (L.take (k + 1)) = partIn lo hi (L.take k) ++ [q.2] := by
  rw [take_snoc h]; simp [partIn, hp]
theorem partIn_no {lo hi : Int} {L : Things} {k : Nat} {q : Int × ByteArray} (h : L[k]? = some q) (hp : inP lo hi q = false) : partIn lo hi (L.take (k + 1)) = partIn lo hi (L.take k) := by
  rw [take_snoc h]; simp [partIn, hp]
theorem partOut_yes {lo hi : Int} {L : Things} {k : Nat} {q : Int × ByteArray} (h : L[k]? = some q) (hp : inP lo hi q = true) : partOut lo hi (L.take (k + 1)) = partOut lo hi (L.take k) := by
  rw [take_snoc h]; simp [partOut, hp]
theorem partOut_no {lo hi : Int} {L : Things} {k : Nat} {q : Int × ByteArray} (h : L[k]? = some q) (hp : inP lo hi q = false) : partOut lo hi (L.take (k + 1)) = partOut lo hi (L.take k) ++ [q] := by
  rw [take_snoc h]; simp [partOut, hp]
theorem partIn_le (lo hi : Int) (L : Things) (k : Nat) : (partIn lo hi (L.take k)).length ≤ L.length := by
  unfold partIn
  rw [List.length_map]
  exact Nat.le_trans (List.length_filter_le _ _) (List.length_take_le' _ _)
theorem partOut_le (lo hi : Int) (L : Things) (k : Nat) : (partOut lo hi (L.take k)).length ≤ L.length := 
  Nat.le_trans (List.length_filter_le _ _) (List.length_take_le' _ _)

structure Parted (w : World) (lo hi : Int) (M : Things) (u v : Value) (wr : World) : Prop where
  rowU : wr.ownsRow w.heap.size 9 1 u (partIn lo hi M).length ((partIn lo hi M).map Value.string)
  rowV : wr.ownsRow w.heap.size 77 2 v (partOut lo hi M).length (flat (partOut lo hi M))
  below : Below w.heap.size w wr

section
variable {w wr w5 : World} {lo hi : Int} {L : Things} {k nu nv : Nat} {i : Int} {t : ByteArray} {u v v' : Value} {ob : Obj}
theorem Parted.yes (hnu : nu = (partIn lo hi (L.take k)).length) (hnv : nv = (partOut lo hi (L.take k)).length) (hu : wr.ownsRow w.heap.size 9 1 u nu ((partIn lo hi (L.take k)).map Value.string)) (hv : wr.ownsRow w.heap.size 77 2 v nv (flat (partOut lo hi (L.take k))))
    (hb : Below w.heap.size w wr) (hk : L[k]? = some (i, t)) (hp : inP lo hi (i, t) = true) (hown : w5.ownsRow w.heap.size 9 1 v' (nu + 1) ((partIn lo hi (L.take k)).map Value.string ++ [.string t])) (hg : (wr.alloc ob).grownBy w5 u.ownBlock) : Parted w lo hi (L.take (k + 1)) v' v w5 := by
  subst hnu hnv
  have hz := hb.size
  refine ⟨?_, ?_, (hb.alloc hz ob).grown hg (by simp; omega) (fun j e => ((hu.alloc ob).lt j e).1)⟩
  · rw [partIn_yes hk hp, List.length_append, List.map_append]; exact hown
  · rw [partOut_yes hk hp]
    exact (hv.alloc ob).kept hg (rows_apart (hv.alloc ob) (hu.alloc ob) (by decide))
theorem Parted.no (hnu : nu = (partIn lo hi (L.take k)).length) (hnv : nv = (partOut lo hi (L.take k)).length) (hu : wr.ownsRow w.heap.size 9 1 u nu ((partIn lo hi (L.take k)).map Value.string)) (hv : wr.ownsRow w.heap.size 77 2 v nv (flat (partOut lo hi (L.take k))))
    (hb : Below w.heap.size w wr) (hk : L[k]? = some (i, t)) (hp : inP lo hi (i, t) = false) (hown : w5.ownsRow w.heap.size 77 2 v' (nv + 1) (flat (partOut lo hi (L.take k)) ++ [.int .i64 i, .string t])) (hg : (wr.alloc ob).grownBy w5 v.ownBlock) : Parted w lo hi (L.take (k + 1)) u v' w5 := by
  subst hnu hnv
  have hz := hb.size
  refine ⟨?_, ?_, (hb.alloc hz ob).grown hg (by simp; omega) (fun j e => ((hv.alloc ob).lt j e).1)⟩
  · rw [partIn_no hk hp]
    exact (hu.alloc ob).kept hg (rows_apart (hu.alloc ob) (hv.alloc ob) (by decide))
  · rw [partOut_no hk hp, List.length_append, flat_snoc]; exact hown
end

set_option maxRecDepth 100000 in
set_option maxHeartbeats 4000000 in
theorem parted_any {w : World} {q each room : Nat} {L : Things} {dr : Int} {v : Value} (h : Ref w q each room L dr v) (hL : L.length < 1000000) (lo hi : Int) :
    Calls Try.prog 33 #[.pointer (some ⟨q, 0, none⟩), .int .i64 lo, .int .i64 hi] w fun e w' => ∃ u v', e = .returned (.tuple #[u, v']) ∧ Parted w lo hi L u v' w' := by
  obtain ⟨a, cap, rfl, hc⟩ := h.cells
  have hq := (Array.getElem?_eq_some_iff.1 h.1).1
  have hg := (row_lt h.2)
  have HC := Lib.hid hc
  have c3 := cell_of h.1 3
  have HG := Lib.hid hg
  obtain ⟨i0, hi0⟩ : ∃ i, Try.prog.info? 9 = some i := ⟨_, rfl⟩
  have hz0 : i0.zero = some (.string ByteArray.empty) := by cases hi0; rfl
  have hz1 : i0.size = 1 := by cases hi0; rfl
  have hz2 : i0.bytes = 16 := by cases hi0; rfl
  obtain ⟨j0, hj0⟩ : ∃ i, Try.prog.info? 77 = some i := ⟨_, rfl⟩
  have hy0 : j0.zero = some (.agg #[.int .i64 0, .string ByteArray.empty]) := by cases hj0; rfl
  have hy1 : j0.size = 2 := by cases hj0; rfl
  have hy2 : j0.bytes = 24 := by cases hj0; rfl
  have HI := Lib.hid hi0
  have HJ := Lib.hid hj0
  clear h hc hi0 hj0 hg
  go_enter Try.func33, Try.ntmps33
  go_wp2
  go_loopw [8, 9, 10] (fun u v ix wr => ∃ k : Nat, k ≤ L.length ∧ ix = .int .i64 k ∧ Parted w lo hi (L.take k) u v wr) (fun _ _ ix _ => L.length - (intOf ix).toNat)
  case atStart =>
    have r1 := World.ownsRow_made (base := w.heap.size) (size := 1) (e := 9) w #[] 0 (Nat.le_refl _) (Nat.zero_le _) rfl
    have r2 := World.ownsRow_made (base := w.heap.size) (size := 2) (e := 77) (w.alloc (.cells #[] 9)) #[] 0 (by simp) (Nat.zero_le _) rfl
    refine ⟨0, Nat.zero_le _, rfl, ⟨?_, ?_, ((Below.refl _ _).alloc (Nat.le_refl _) _).alloc (by simp) _⟩⟩
    · simpa [partIn] using r1.alloc (.cells #[] 77)
    · simpa [partOut, flat] using r2
  case round =>
    obtain ⟨k, hk, rfl, hpar⟩ := hrel
    have HP := Lib.hid hpar
    have c3' := (HP.out.below.cell (p := ⟨q, 3, none⟩) hq).trans c3
    clear hpar
    obtain ⟨au, cu, rfl⟩ := row_form HP.out.rowU
    obtain ⟨av, cv, rfl⟩ := row_form HP.out.rowV
    have l1 := partIn_le lo hi L k
    have l2 := partOut_le lo hi L k
    obtain ⟨nu, hnu⟩ : ∃ n, n = (partIn lo hi (L.take k)).length := ⟨_, rfl⟩
    obtain ⟨nv, hnv⟩ : ∃ n, n = (partOut lo hi (L.take k)).length := ⟨_, rfl⟩
    have hru := HP.out.rowU
    have hrv := HP.out.rowV
    rw [← hnu] at l1 hru
    rw [← hnv] at l2 hrv
    have HRU := Lib.hid hru
    have HRV := Lib.hid hrv
    have HNU := Lib.hid hnu
    have HNV := Lib.hid hnv
    have hwr := HP.out.below.size
    have HPB := Lib.hid HP.out.below
    rw [← hnu, ← hnv]
    clear hru hrv hnu hnv HP c3
    by_cases hlt : k < L.length
    · obtain ⟨g, rfl, hcc⟩ := HC.out (by omega)
      obtain ⟨i, t, hit⟩ : ∃ i t, L[k]? = some (i, t) := ⟨L[k].1, L[k].2, by simp [hlt]⟩
      obtain ⟨d1, d2⟩ := hcc k i t hit
      have hgl := HG.out g (by simp [blockOf, Value.ownBlock])
      have d1' := (HPB.out.cell (p := ⟨g, k * 2, none⟩) hgl.2).trans d1
      have d2' := (HPB.out.cell (p := ⟨g, k * 2 + 1, none⟩) hgl.2).trans d2
      have HIT := Lib.hid hit
      have hmu : nu + 1 ≤ maxLen := by unfold maxLen; omega
      have hmv : nv + 1 ≤ maxLen := by unfold maxLen; omega
      clear hcc hit d1 d2 hgl
      by_cases h1 : lo ≤ i
      · by_cases h2 : i ≤ hi
        · have hp : inP lo hi (i, t) = true := by simp [inP, h1, h2]
          have HY := Lib.hid hp
          clear hp
          go_wp2_with (at_builtin; refine wpList_append_own_at _ rfl _ _ 36 rfl w.heap.size 9 i0 (.string ByteArray.empty) 1 16 Try.underlying36 HI.out hz0 hz1 hz2 rfl (by decide) _ _ _ rfl (HRU.out.alloc _) ⟨wr.heap.size, 0, none⟩ 1 1 [.string t] rfl rfl (cell_one_new _ _ _) (fun u hu => by simp at hu; subst hu; rfl) hmu (by omega) (by simp; omega) ?_; intro v' w5 hown' hgrow _ hloc; have HOWN := Lib.hid hown'; have HGR := Lib.hid hgrow; clear hown' hgrow hloc)
          go_roundw
          case rel => exact ⟨k + 1, by omega, by go_num, Parted.yes HNU.out HNV.out HRU.out HRV.out HPB.out HIT.out HY.out HOWN.out HGR.out⟩
          case measure => simp [intOf]; omega
        · have hp : inP lo hi (i, t) = false := by simp [inP, h2]
          have HY := Lib.hid hp
          clear hp
          go_wp2_with (at_builtin; refine wpList_append_own_at _ rfl _ _ 42 rfl w.heap.size 77 j0 (.agg #[.int .i64 0, .string ByteArray.empty]) 2 24 Try.underlying42 HJ.out hy0 hy1 hy2 rfl (by decide) _ _ _ rfl (HRV.out.alloc _) ⟨wr.heap.size, 0, none⟩ 1 1 [.int .i64 i, .string t] rfl rfl (cell_two_new _ _ _ _) (fun u hu => by simp at hu; rcases hu with rfl | rfl <;> rfl) hmv (by omega) (by simp; omega) ?_; intro v' w5 hown' hgrow _ hloc; have HOWN := Lib.hid hown'; have HGR := Lib.hid hgrow; clear hown' hgrow hloc)
          go_roundw
          case rel => exact ⟨k + 1, by omega, by go_num, Parted.no HNU.out HNV.out HRU.out HRV.out HPB.out HIT.out HY.out HOWN.out HGR.out⟩
          case measure => simp [intOf]; omega
      · have hp : inP lo hi (i, t) = false := by simp [inP, h1]
        have HY := Lib.hid hp
        clear hp
        go_wp2_with (at_builtin; refine wpList_append_own_at _ rfl _ _ 42 rfl w.heap.size 77 j0 (.agg #[.int .i64 0, .string ByteArray.empty]) 2 24 Try.underlying42 HJ.out hy0 hy1 hy2 rfl (by decide) _ _ _ rfl (HRV.out.alloc _) ⟨wr.heap.size, 0, none⟩ 1 1 [.int .i64 i, .string t] rfl rfl (cell_two_new _ _ _ _) (fun u hu => by simp at hu; rcases hu with rfl | rfl <;> rfl) hmv (by omega) (by simp; omega) ?_; intro v' w5 hown' hgrow _ hloc; have HOWN := Lib.hid hown'; have HGR := Lib.hid hgrow; clear hown' hgrow hloc)
        go_roundw
        case rel => exact ⟨k + 1, by omega, by go_num, Parted.no HNU.out HNV.out HRU.out HRV.out HPB.out HIT.out HY.out HOWN.out HGR.out⟩
        case measure => simp [intOf]; omega
    · have hke : k = L.length := by omega
      subst hke
      rw [List.take_length] at HRU HRV HNU HNV
      go_wp2
      go_ret2
      exact ⟨_, _, rfl, HNU.out ▸ HRU.out, HNV.out ▸ HRV.out, HPB.out⟩
end Go.Proofs.Ytgmgofcclddkiaa
