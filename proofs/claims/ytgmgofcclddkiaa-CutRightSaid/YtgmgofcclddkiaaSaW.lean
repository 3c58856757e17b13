/- The law CutSame walked: it answers true for every two numbers and every count. -/
import Derived.Test.YtgmgofcclddkiaaMaW
namespace Go.Proofs.Ytgmgofcclddkiaa
open Go.RowKit Go.Maps Go.WideShapes

/-- k claims that are all the same -/
def sameL (a b : Int) (k : Nat) : List Clm := (List.range k).map (fun i : Nat => ((i : Int), a, b))
theorem sameL_succ (a b : Int) (k : Nat) : sameL a b (k + 1) = sameL a b k ++ [((k : Int), a, b)] := by
  unfold sameL; rw [List.range_succ, List.map_append]; rfl
theorem sameL_len (a b : Int) (k : Nat) : (sameL a b k).length = k := by simp [sameL]
theorem sameL_ids (a b : Int) (k : Nat) : ((sameL a b k).map (·.1)).Nodup := by
  unfold sameL
  rw [List.map_map]
  refine List.Pairwise.map _ (fun i j (h : i < j) => ?_) List.pairwise_lt_range
  show (i : Int) ≠ (j : Int)
  omega
theorem sameL_last (a b : Int) (k : Nat) : lastOf (sameL a b k) = sameL a b k := lastOf_distinct (sameL_ids a b k)
theorem sameL_votes (a b : Int) (p : Int) : ∀ k : Nat, votes (sameL a b k) p = if a ≤ p ∧ p ≤ b then (k : Int) else 0
  | 0 => by simp [sameL, votes]
  | k + 1 => by
    rw [sameL_succ, votes_append, sameL_votes a b p k, votes_cons]
    have h0 : votes [] p = 0 := rfl
    rw [h0]
    by_cases h : a ≤ p ∧ p ≤ b
    · rw [if_pos h, if_pos h, if_pos ((hasB_iff p _).2 h)]; push_cast; omega
    · rw [if_neg h, if_neg h, if_neg (fun e => h ((hasB_iff p _).1 e))]; rfl
theorem sameL_agree (a b : Int) (hab : a ≤ b) (k : Nat) (hk : 0 < k) : AgreeIs (sameL a b k) a b k := by
  refine ⟨fun p => ?_, by omega, fun _ => ⟨hab, fun p hp => ?_, fun p h1 h2 => ?_, ?_⟩⟩
  · rw [sameL_votes]; split <;> omega
  · rw [sameL_votes, if_neg (by omega)]; omega
  · rw [sameL_votes, if_pos ⟨h1, h2⟩]
  · rw [sameL_votes, if_neg (by omega)]; omega
theorem sameL_may (a b : Int) (hab : a ≤ b) (ha : -1152921504606846976 ≤ a) (hb : b ≤ 1152921504606846976) (k : Nat) : (sameL a b k).any (fun c => !mayB c) = false := by
  rw [List.any_eq_false]
  intro c hc
  obtain ⟨i, _, rfl⟩ := List.mem_map.1 hc
  have : mayB ((i : Int), a, b) = true := (mayB_iff _).2 ⟨by simp, hab, ha, hb⟩
  simp [this]
theorem sameL_good (a b : Int) (hab : a ≤ b) (ha : -1152921504606846976 ≤ a) (hb : b ≤ 1152921504606846976) (k : Nat) (hk : 0 < k) (h64 : k ≤ 64) : Good (sameL a b k) a b k := by
  refine ⟨sameL_may a b hab ha hb k, by rw [sameL_len]; exact h64, ?_, ?_⟩
  · rw [sameL_last]; exact sameL_agree a b hab k hk
  · rw [sameL_last, sameL_len]; omega
theorem good_res {cs : List Clm} {l h v : Int} (hg : Good cs l h v) {e : Ending} (hr : AgreeRes cs e) : e = retA l h v 0 := by
  rcases hr with ⟨hA, _⟩ | ⟨_, hl, _⟩ | ⟨_, _, l', h', v', hI, ⟨h2, rfl⟩ | ⟨h2, rfl⟩⟩
  · have := hg.1; rw [hA] at this; cases this
  · have := hg.2.1; omega
  · have := (hg.2.2.1.unique hI).1; have := hg.2.2.2; omega
  · obtain ⟨rfl, h3⟩ := hg.2.2.1.unique hI
    obtain ⟨rfl, rfl⟩ := h3 (by have := hg.2.2.2; omega)
    rfl
theorem sameL_true (a b : Int) (hab : a ≤ b) (ha : -1152921504606846976 ≤ a) (hb : b ≤ 1152921504606846976) (k : Nat) (hk : 0 < k) (h64 : k ≤ 64) {ids : List Int} (h : TrueRes (sameL a b k) ids) : ids.length = k := by
  have hp := h.2.2 _ _ _ (sameL_good a b hab ha hb k hk h64)
  rw [sameL_last] at hp
  have : (sameL a b k).filter (inC a b) = sameL a b k := by
    rw [List.filter_eq_self]
    intro c hc
    obtain ⟨i, _, rfl⟩ := List.mem_map.1 hc
    simp [inC]
  rw [this] at hp
  rw [hp.length_eq, List.length_map, sameL_len]

theorem info62 : (Try.prog.info? 62).map (fun i => (i.zero, i.size, i.bytes)) = some (some (.agg #[.int .i64 0, .int .i64 0, .int .i64 0]), 3, 24) := by kernel_rfl
theorem cell_three_at (w : World) (n : Nat) (hn : n = w.heap.size) (x y z : Value) (e : TypeId) : ∀ j v, [x, y, z][j]? = some v → (w.alloc (.cells #[x, y, z] e)).cell? ((⟨n, 0, none⟩ : Addr).add j) = some v := by
  subst hn
  intro j u h
  rw [add_none, cell_of (MapKept.heap_alloc w _).1]
  rw [Nat.zero_add]
  simpa using h

theorem below_own {B : Nat} {w w4 w5 : World} {v : Value} {e : TypeId} {size n : Nat} {xs : List Value} {ob : Obj} (hb : Below B w w4) (hr : w4.ownsRow B e size v n xs) (hg : (w4.alloc ob).grownBy w5 v.ownBlock) (hB : B ≤ w4.heap.size) : Below B w w5 :=
  (hb.alloc hB ob).grown hg (by simp; omega) (fun j e => (row_lt hr j (by simp [blockOf, e])).1)

set_option maxRecDepth 100000 in
set_option maxHeartbeats 4000000 in
theorem same_walk (w : World) (low : Int) (hlw : (Lit.int .i64 low).wf = true) (high : Int) (hhw : (Lit.int .i64 high).wf = true) (n : Int) (hnw : (Lit.int .u8 n).wf = true) :
    Calls Try.prog 12 #[.int .i64 low, .int .i64 high, .int .u8 n] w fun e w' => e = .returned (.bool true) ∧ Below w.heap.size w w' := by
  have hl := i64b hlw
  have hh := i64b hhw
  have hnb := u8b hnw
  have haw := Lib.hid (awake16 w)
  obtain ⟨i0, hi, hz0, hz1, hz2⟩ := info_parts info62
  have HI := Lib.hid hi
  clear hi hlw hhw hnw
  obtain ⟨hl1, hl2⟩ := hl
  obtain ⟨hh1, hh2⟩ := hh
  obtain ⟨hn1, hn2⟩ := hnb
  go_enter Try.func12, Try.ntmps12
  go_wp2_with fail
  refine haw.out.mono ?_
  rintro e w1 ⟨rfl, hb⟩
  have HB := Lib.hid hb
  clear hb haw
  go_wp2_with fail
  go_big_region
  go_wp2_with fail
  have htm : ∀ x : Int, -1152921504606846976 ≤ x.tmod 1152921504606846977 ∧ x.tmod 1152921504606846977 ≤ 1152921504606846976 := fun x => by
    have h1 := Int.tmod_lt_of_pos x (show (0 : Int) < 1152921504606846977 by omega)
    have h2 := Int.lt_tmod_of_pos x (show (0 : Int) < 1152921504606846977 by omega)
    omega
  have hab : min (low.tmod 1152921504606846977) (high.tmod 1152921504606846977) ≤ max (low.tmod 1152921504606846977) (high.tmod 1152921504606846977) := by omega
  have hal : -1152921504606846976 ≤ min (low.tmod 1152921504606846977) (high.tmod 1152921504606846977) := by have := htm low; have := htm high; omega
  have hbh : max (low.tmod 1152921504606846977) (high.tmod 1152921504606846977) ≤ 1152921504606846976 := by have := htm low; have := htm high; omega
  clear htm
  generalize min (low.tmod 1152921504606846977) (high.tmod 1152921504606846977) = a at hab hal ⊢
  generalize max (low.tmod 1152921504606846977) (high.tmod 1152921504606846977) = b at hab hbh ⊢
  obtain ⟨k, hk⟩ : ∃ k : Nat, (k : Int) = n % 64 + 1 := ⟨(n % 64 + 1).toNat, by omega⟩
  have hk0 : 0 < k := by omega
  have hk64 : k ≤ 64 := by omega
  rw [← hk]
  clear hk
  have HRW0 := Lib.hid (ownsRow_base (row_lit w1 #[] 62 3 0 rfl (by decide)).drew HB.out.size)
  have HB0 := Lib.hid (HB.out.alloc HB.out.size (.cells #[] 62)).drew
  clear HB
  generalize (w1.alloc (.cells #[] 62)).drew = w2 at HRW0 HB0 ⊢
  go_loopw [11, 12] (fun vl ix wr => ∃ j : Nat, j ≤ k ∧ ix = .int .i64 j ∧ Hid (wr.ownsRow w.heap.size 62 3 vl j (flatC (sameL a b j))) ∧ Hid (Below w.heap.size w wr)) (fun _ ix _ => k - (RowKit.intOf ix).toNat)
  case atStart => exact ⟨0, Nat.zero_le _, rfl, HRW0.out, HB0.out⟩
  case round =>
    clear HRW0 HB0
    obtain ⟨j, hj, rfl, HRW, HB⟩ := hrel
    by_cases hlt : j < k
    · have hmx : j + 1 ≤ maxLen := by unfold maxLen; omega
      have hz := HB.out.size
      obtain ⟨ao, co, rfl⟩ := row_form HRW.out
      go_wp2_with (at_builtin; refine wpList_append_own_at _ rfl _ _ 59 rfl w.heap.size 62 i0 (.agg #[.int .i64 0, .int .i64 0, .int .i64 0]) 3 24 Try.underlying59 HI.out hz0 hz1 hz2 rfl (by decide) _ _ _ rfl (HRW.out.alloc _) _ 1 1 [.int .i64 j, .int .i64 a, .int .i64 b] rfl rfl (cell_three_at _ _ rfl _ _ _ _) (fun u hu => by simp at hu; rcases hu with rfl | rfl | rfl <;> rfl) hmx (by omega) (by simp; omega) ?_; intro v' w5 hown' hgrow _ hloc; have HOWN := Lib.hid hown'; have HGR := Lib.hid hgrow; clear hown' hgrow hloc)
      go_roundw
      case rel =>
        refine ⟨j + 1, by omega, by go_num, ?_, ?_⟩
        · show World.ownsRow _ _ _ _ _ _ _
          rw [sameL_succ, flatC_append]; exact HOWN.out
        · show Below _ _ _
          exact below_own HB.out HRW.out HGR.out HB.out.size
      case measure => simp [RowKit.intOf]; omega
    · obtain rfl : j = k := by omega
      have hlen := sameL_len a b j
      have hrow := HRW.out
      obtain ⟨ao, co, rfl⟩ := row_form hrow
      have HC := Lib.hid (ClmsAt.of_row (cs := sameL a b j) (by rw [hlen]; exact hrow) (by rw [hlen]; unfold maxLen; omega))
      have hok : ∀ c ∈ sameL a b j, okC c := fun c hc => by
        obtain ⟨i, hi, rfl⟩ := List.mem_map.1 hc
        have := List.mem_range.1 hi
        unfold okC; simp only; omega
      have HOK := Lib.hid hok
      clear hrow hok HRW hlen
      go_wp2_with fail
      refine (agree_any wr _ (sameL a b j) HC.out HOK.out).mono ?_
      rintro e w3 ⟨hres, hb⟩
      rw [good_res (sameL_good a b hab hal hbh j hk0 hk64) hres]
      have HB3 := Lib.hid (HB.out.trans (hb.mono HB.out.size))
      have HC3 := Lib.hid (HC.out.keep hb)
      unfold retA
      clear hres hb HB HC
      go_wp2_with fail
      refine (true_any w3 _ (sameL a b j) HC3.out HOK.out).mono ?_
      rintro e w4 ⟨vi, ids, rfl, hrow, htr, hb⟩
      have hil := sameL_true a b hab hal hbh j hk0 hk64 htr
      obtain ⟨ai, ci, rfl⟩ := row_form hrow
      rw [hil]
      have HB4 := Lib.hid (HB3.out.trans (hb.mono HB3.out.size))
      clear hrow htr hb hil
      go_wp2
      go_ret
      exact ⟨rfl, HB4.out⟩
end Go.Proofs.Ytgmgofcclddkiaa
