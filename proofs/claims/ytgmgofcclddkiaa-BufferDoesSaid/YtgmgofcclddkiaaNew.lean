/- The buffer's New and Drop, for every room and interval. -/
import Derived.Test.YtgmgofcclddkiaaTake
import Derived.Test.YtgmgofcclddkiaaInt
namespace Go.Proofs.Ytgmgofcclddkiaa
open Go.RowKit Go.Maps Go.WideShapes

set_option maxRecDepth 100000 in
set_option maxHeartbeats 400000 in
theorem new_walk {w : World} (a b : Int) (h1 : 1 ≤ a) (h2 : a ≤ 64) (h3 : 1 ≤ b) (h4 : b ≤ 64) :
    Calls Try.prog 14 #[.int .i64 a, .int .i64 b] w fun e w' => e = .returned (.tuple #[.pointer (some ⟨w.heap.size + 1, 0, none⟩), .int .i64 0]) ∧
      w' = (w.alloc (.map #[] 0)).alloc (.cells #[.int .i64 a, .int .i64 b, .map (some w.heap.size), .int .i64 0, .int .i64 0] 71) := by
  have hmm := @run_makeMap Try.prog
  have d1 : decide (min a b < 1) = false := by simp; omega
  have d2 : decide (64 < max a b) = false := by simp; omega
  go_enter Try.func14, Try.ntmps14
  go_wp2
  go_ret2
  exact ⟨rfl, rfl⟩

set_option maxRecDepth 100000 in
set_option maxHeartbeats 400000 in
/-- no such buffer -/
theorem new_bad {w : World} (a b : Int) (h : a < 1 ∨ 64 < a ∨ b < 1 ∨ 64 < b) :
    Calls Try.prog 14 #[.int .i64 a, .int .i64 b] w fun e w' => e = .returned (.tuple #[.pointer none, .int .i64 1]) ∧ w = w' := by
  by_cases d : min a b < 1
  · have d1 : decide (min a b < 1) = true := by simpa using d
    clear h d
    go_enter Try.func14, Try.ntmps14
    go_wp2
    go_ret2
    exact ⟨rfl, rfl⟩
  · have d1 : decide (min a b < 1) = false := by simpa using d
    have d2 : decide (64 < max a b) = true := by simp; omega
    clear h d
    go_enter Try.func14, Try.ntmps14
    go_wp2
    go_ret2
    exact ⟨rfl, rfl⟩

/-- the blocks of a new buffer -/
def NewF (w : World) : Nat → Prop := fun k => k = w.heap.size ∨ k = w.heap.size + 1

theorem new_any {w : World} (a b : Int) (h1 : 1 ≤ a) (h2 : a ≤ 64) (h3 : 1 ≤ b) (h4 : b ≤ 64) :
    Calls Try.prog 14 #[.int .i64 a, .int .i64 b] w fun e w' => e = .returned (.tuple #[.pointer (some ⟨w.heap.size + 1, 0, none⟩), .int .i64 0]) ∧
      Rep w' (w.heap.size + 1) (NewF w) a.toNat b.toNat [] 0 ∧ Below w.heap.size w w' ∧ w'.heap.size = w.heap.size + 2 := by
  refine (new_walk a b h1 h2 h3 h4).mono ?_
  rintro e w' ⟨rfl, rfl⟩
  refine ⟨rfl, ⟨?_, w.heap.size, fun _ => 0, fun _ => 0, ?_⟩, ((Below.refl _ _).alloc (Nat.le_refl _) _).alloc (by simp) _, by simp⟩
  · refine ⟨by omega, by omega, by omega, by omega, List.nodup_nil, by simp, by simp, by simp [texts], by simp [ivs]⟩
  · refine ⟨?_, ?_, ?_, ?_, ?_, ?_, ?_⟩
    · have e := (MapKept.heap_alloc (w.alloc (.map #[] 0)) (.cells #[.int .i64 a, .int .i64 b, .map (some w.heap.size), .int .i64 0, .int .i64 0] 71)).1
      rw [World.size_alloc] at e
      rw [e]
      have ea : (a.toNat : Int) = a := by omega
      have eb : (b.toNat : Int) = b := by omega
      rw [ea, eb]; rfl
    · have e := (MapIs.made w Try.prog 3).block (w' := (w.alloc (.map #[] 0)).alloc (.cells #[.int .i64 a, .int .i64 b, .map (some w.heap.size), .int .i64 0, .int .i64 0] 71)) (Below.heap_alloc _ _ _ (by simp))
      refine e.congr (fun l => ?_)
      unfold slotG; split <;> simp [hasI]
    · intro i hi; simp [hasI] at hi
    · intro i j hi; simp [hasI] at hi
    · intro i hi; simp [hasI] at hi
    · exact ⟨.inr rfl, .inl rfl, fun i hi => by simp [hasI] at hi⟩
    · intro k hk; rcases hk with rfl | rfl <;> simp <;> omega

theorem row_form {w : World} {base : Nat} {e : TypeId} {size : Nat} {v : Value} {n : Nat} {xs : List Value} (h : w.ownsRow base e size v n xs) : ∃ a cap, v = .slice a n cap := by
  rcases h.2 with ⟨rfl, rfl⟩ | ⟨g, cap, cur, rfl, _⟩
  · exact ⟨none, 0, rfl⟩
  · exact ⟨_, cap, rfl⟩
/-- an owned row of one-cell elements: its block, and each cell -/
theorem row_cells {w : World} {base : Nat} {e : TypeId} {v : Value} {n : Nat} {xs : List Value} (h : w.ownsRow base e 1 v n xs) (hn : 0 < n) :
    ∃ g cap, v = .slice (some ⟨g, 0, none⟩) n cap ∧ base ≤ g ∧ g < w.heap.size ∧ ∀ j, j < n → w.cell? ⟨g, j, none⟩ = xs[j]? := by
  obtain ⟨hl, h⟩ := h
  rcases h with ⟨_, rfl⟩ | ⟨g, cap, cur, rfl, hb, hg, h1, h2, h3, h4⟩
  · omega
  · refine ⟨g, cap, rfl, hb, (Array.getElem?_eq_some_iff.1 hg).1, fun j hj => ?_⟩
    rw [cell_of hg, ← h4, List.getElem?_take]
    simp [hj]

/-! ### Drop -/
def dropK (L : Things) (xs : List Int) (b : Int) : Things := L.filter (fun q => !(decide (q.1 ∈ xs) && decide (q.1 < b)))
def dropL (L : Things) (b : Int) : Things := L.filter (fun q => !decide (q.1 < b))
theorem dropK_nil (L : Things) (b : Int) : dropK L [] b = L := by
  unfold dropK; refine List.filter_eq_self.2 (fun p _ => by simp)
theorem dropK_all (L : Things) (b : Int) : dropK L (ivs L) b = dropL L b := by
  unfold dropK dropL
  refine List.filter_congr (fun q hq => ?_)
  have : q.1 ∈ ivs L := (mem_ivs L q.1).2 ((hasI_iff L q.1).2 ⟨q.2, hq⟩)
  simp [this]
theorem dropK_take {L : Things} {xs : List Int} {x b : Int} (h : x < b) : dropK L (xs ++ [x]) b = takeL (dropK L xs b) x := by
  unfold dropK takeL
  rw [List.filter_filter]
  refine List.filter_congr (fun q _ => ?_)
  by_cases hq : q.1 = x
  · subst hq; simp [h]
  · simp [hq]
theorem dropK_skip {L : Things} {xs : List Int} {x b : Int} (h : ¬ x < b) : dropK L (xs ++ [x]) b = dropK L xs b := by
  unfold dropK
  refine List.filter_congr (fun q _ => ?_)
  by_cases hq : q.1 = x
  · subst hq; simp [h]
  · simp [hq]
theorem dropK_len (L : Things) (xs : List Int) (b : Int) : (dropK L xs b).length ≤ L.length := List.length_filter_le _ _

/-- what Drop leaves behind -/
def DropPost (w : World) (p : Nat) (F : Nat → Prop) (each room : Nat) (L : Things) (dr : Int) (b : Int) (e : Ending) (w' : World) : Prop :=
  e = .returned (.int .i64 (L.length - (dropL L b).length)) ∧ Rep w' p F each room (dropL L b) dr ∧ Turned F w w'

set_option maxRecDepth 100000 in
set_option maxHeartbeats 1000000 in
theorem drop_any {w : World} {p : Nat} {F : Nat → Prop} {each room : Nat} {L : Things} {dr : Int} (h : Rep w p F each room L dr) (b : Int) (hL : L.length < 4611686018427387904) :
    Calls Try.prog 22 #[.pointer (some ⟨p, 0, none⟩), .int .i64 b] w (DropPost w p F each room L dr b) := by
  have hf := h.fine
  have HI := Lib.hid (intervals_any h)
  have HR := Lib.hid h
  have HF := Lib.hid hf
  have hlt : (ivs L).length ≤ 64 := by have := hf.many; have := hf.b4; omega
  clear h hf
  go_enter Try.func22, Try.ntmps22
  go_wp2_with (go_at_call 24; refine HI.out.mono ?_; rintro e w1 ⟨v1, rfl, hrow1, hnil1, hb1⟩; obtain ⟨a1, cap1, rfl⟩ := row_form hrow1; have HROW := Lib.hid hrow1; have HB := Lib.hid hb1; clear hrow1 hnil1 hb1)
  obtain ⟨xs, hxs⟩ : ∃ xs, xs = ivs L := ⟨_, rfl⟩
  rw [← hxs] at hlt HROW ⊢
  have HX := Lib.hid hxs
  clear hxs
  have hw1 : Hid (Rep w1 p F each room L dr) := HR.out.turned (Turned.of_below HB.out (F := fun _ => False)) (fun _ _ hf => hf)
  have hfl : Hid (∀ k, F k → k < w.heap.size) := HR.out.lt
  go_loopw [5, 11] (fun n ix wr => ∃ k : Nat, k ≤ xs.length ∧ ix = .int .i64 k ∧ (∃ m : Int, n = .int .i64 m ∧ m = L.length - (dropK L (xs.take k) b).length) ∧ Rep wr p F each room (dropK L (xs.take k) b) dr ∧ Turned F w1 wr) (fun _ ix _ => xs.length - (intOf ix).toNat)
  case atStart =>
    refine ⟨0, Nat.zero_le _, rfl, ⟨0, rfl, ?_⟩, ?_, Turned.refl _ _⟩
    · simp [dropK_nil]
    · rw [List.take_zero, dropK_nil]; exact hw1.out
  case round =>
    obtain ⟨k, hk, rfl, ⟨m, rfl, hm⟩, hrep, ht⟩ := hrel
    have hmb : 0 ≤ m ∧ m ≤ L.length := by have := dropK_len L (xs.take k) b; omega
    have hm1 := hmb.1
    have hm2 : m ≤ 4611686018427387904 := by omega
    have HM := Lib.hid hm
    have HREP := Lib.hid hrep
    have HT := Lib.hid ht
    clear hm hrep ht hmb
    by_cases hlt2 : k < xs.length
    · obtain ⟨g, cap, hv, hg1, hg2, hcells⟩ := row_cells HROW.out (by omega)
      simp only [Value.slice.injEq] at hv
      obtain ⟨rfl, _, rfl⟩ := hv
      have hc : wr.cell? ⟨g, k, none⟩ = some (.int .i64 xs[k]) := by
        rw [HT.out.cell (a := ⟨g, k, none⟩) hg2 (fun hf => by have := hfl.out g hf; omega), hcells k hlt2]
        simp [hlt2]
      obtain ⟨x, hx⟩ : ∃ x, x = xs[k] := ⟨_, rfl⟩
      rw [← hx] at hc
      have hxm : x ∈ ivs L := by rw [hx, ← HX.out]; exact List.getElem_mem _
      have hts : xs.take (k + 1) = xs.take k ++ [x] := by rw [hx]; exact take_succ xs k hlt2
      have hxb : 1 ≤ x ∧ x ≤ 9223372036854775807 := by
        obtain ⟨t, ht⟩ := (hasI_iff L x).1 ((mem_ivs L x).1 hxm)
        exact HF.out.pos _ ht
      have HTS := Lib.hid hts
      have HXB := Lib.hid hxb
      clear hx hxm hts hxb hcells
      by_cases hxl : x < b
      · have hlen := len_takeL (dropK L (xs.take k) b) x
        have hdl := dropK_len L (xs.take k) b
        have HTK := Lib.hid (take_any HREP.out x (by have := HXB.out; omega) HXB.out.2 (by omega))
        have htl : (texts (dropK L (xs.take k) b) x).length ≤ 64 := by have := HREP.out.fine.full x; have := HREP.out.fine.b2; omega
        obtain ⟨tl, htl2⟩ : ∃ tl, tl = (texts (dropK L (xs.take k) b) x).length := ⟨_, rfl⟩
        rw [← htl2] at htl hlen
        have HTL := Lib.hid htl2
        have HLEN := Lib.hid hlen
        clear hdl htl2 hlen
        go_wp2_with (go_at_call 20; refine HTK.out.mono ?_; rintro e w2 ⟨v2, rfl, hrow2, hnil2, hrep2, ht2⟩; obtain ⟨a2, cap2, rfl⟩ := row_form hrow2; rw [← HTL.out]; have HREP2 := Lib.hid hrep2; have HT2 := Lib.hid ht2; clear hrow2 hnil2 hrep2 ht2)
        go_roundw
        case rel =>
          have hlen := HLEN.out
          refine ⟨k + 1, by omega, by go_num, ⟨_, rfl, ?_⟩, ?_, HT.out.trans HT2.out (fun j hj => .inl hj)⟩
          · rw [HTS.out, dropK_take hxl, HM.out]; omega
          · rw [HTS.out, dropK_take hxl]; exact HREP2.out
        case measure => simp [intOf]; omega
      · go_wp2
        go_roundw
        case rel =>
          refine ⟨k + 1, by omega, by go_num, ⟨_, rfl, ?_⟩, ?_, HT.out⟩
          · rw [HTS.out, dropK_skip hxl]; exact HM.out
          · rw [HTS.out, dropK_skip hxl]; exact HREP.out
        case measure => simp [intOf]; omega
    · have hke : k = xs.length := by omega
      subst hke
      go_wp2
      go_ret
      have e : dropK L (xs.take xs.length) b = dropL L b := by rw [List.take_length, HX.out, dropK_all]
      have hrep := HREP.out
      have hm := HM.out
      rw [e] at hrep hm
      refine ⟨congrArg (fun z => Ending.returned (.int .i64 z)) hm, hrep, (Turned.of_below HB.out).trans HT.out (fun j hj => .inl hj)⟩
end Go.Proofs.Ytgmgofcclddkiaa
