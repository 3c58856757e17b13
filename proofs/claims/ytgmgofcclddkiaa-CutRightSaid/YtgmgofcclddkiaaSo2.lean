/- Parts of the sort of edges: reverseRange and insertionSort: what they leave is what the plain twin says. -/
import Derived.Test.YtgmgofcclddkiaaSo1
import Derived.BigRegion
namespace Go.Proofs.Ytgmgofcclddkiaa
open Go.RowKit Go.Sort Go.Proofs Go.Shelf
set_option maxRecDepth 1000000 in
set_option maxHeartbeats 8000000 in
theorem reverse_t (w0 w : World) (blk off n cap a b : Nat) (d : Array Edge) (S : SW w0 blk off n d w) (hab : a ≤ b) (hb : b ≤ n) :
    Calls Try.prog 70 #[.slice (some ⟨blk, off, none⟩) n cap, .int .i64 a, .int .i64 b, ofV] w fun e w' => e = .returned (.tuple #[]) ∧ SW w0 blk off n (reverseRange d a b) w' := by
  have mixed : Try.prog.follows .mixedOrders = true := by kernel_rfl
  have hn := S.small
  have S0 := Lib.hid S
  clear S
  go_enter Try.func70, Try.ntmps70
  go_wp2
  go_loopg [8, 9] (b - a) (fun kx s8 s9 wr => ∃ (i jn : Nat) (jz : Int) (dk : Array Edge), s8 = .int .i64 i ∧ s9 = .int .i64 jz ∧ ((i : Int) < jz → jz = jn ∧ jn < n) ∧ (¬ (i : Int) < jz → ¬ i < jn) ∧ jn - i ≤ kx ∧
    Hid (SW w0 blk off n dk wr) ∧ Hid (reverseLoop i jn dk = reverseLoop a (b - 1) d))
  case atStart => exact ⟨a, b - 1, (b : Int) - 1, d, rfl, rfl, fun h => ⟨by omega, by omega⟩, fun h => by omega, by omega, S0, rfl⟩
  case round =>
    clear S0
    obtain ⟨i, jn, jz, dk, rfl, rfl, h1, h2, hkx, S1, heq⟩ := hrel
    by_cases hlt : (i : Int) < jz
    · obtain ⟨rfl, hjn⟩ := h1 hlt
      have hij : i < jn := by omega
      clear h1 h2
      go_wp2_with fail
      have q1ia : ((i : Int)).toNat = i := by omega
      have q1ib : 0 ≤ ((i : Int)) := by omega
      have q1ic : ((i : Int)) < (n : Int) := by omega
      have q1id : IntKind.i64.wrap ((i : Int)) = (i : Int) := by rw [IntKind.wrap_i64]; omega
      have q1ka : ((jn : Int)).toNat = jn := by omega
      have q1kb : 0 ≤ ((jn : Int)) := by omega
      have q1kc : ((jn : Int)) < (n : Int) := by omega
      have q1kd : IntKind.i64.wrap ((jn : Int)) = (jn : Int) := by rw [IntKind.wrap_i64]; omega
      obtain ⟨q1x, q1y, q11, q12, q13, q14, q15, q16, q17, q18, ⟨q1u, q19⟩, ⟨q1v, q110⟩, ⟨q1w, q111⟩, q1S⟩ := S1.out.swaps (i) (jn) (by omega) (by omega)
      have S2 := Lib.hid q1S
      clear q1S S1
      go_wp2_with fail
      go_big_region
      clear q11 q12 q13 q14 q15 q16 q17 q18 q19 q110 q111 q1ia q1ib q1ic q1id q1ka q1kb q1kc q1kd
      generalize ((((wr.setCell ⟨blk, off + i * 2, none⟩ (.int .i64 q1y.1)).setCell ⟨blk, off + i * 2 + 1, none⟩ (.int .i64 q1y.2)).setCell ⟨blk, off + jn * 2, none⟩ (.int .i64 q1x.1)).setCell ⟨blk, off + jn * 2 + 1, none⟩ (.int .i64 q1x.2)).drew = w2 at S2 ⊢
      go_wp2
      go_roundg (jn - 1 - (i + 1))
      case measure => omega
      case rel => exact ⟨i + 1, jn - 1, (jn : Int) - 1, swp dk i jn, by simp, rfl, fun h => ⟨by omega, by omega⟩, fun h => by omega, Nat.le_refl _, S2, (show Hid _ from by rw [← heq.out, reverseLoop.eq_1 i jn, if_pos hij]; rfl)⟩
    · have hnot := h2 hlt
      go_wp2
      go_end0
      refine ⟨rfl, ?_⟩
      have e : dk = reverseRange d a b := by rw [reverseRange, ← heq.out, reverseLoop.eq_1 i jn, if_neg hnot]
      rw [← e]; exact S1.out

set_option maxRecDepth 1000000 in
set_option maxHeartbeats 8000000 in
theorem insert_t (w0 w : World) (blk off n cap a b : Nat) (d : Array Edge) (S : SW w0 blk off n d w) (hab : a ≤ b) (hb : b ≤ n) :
    Calls Try.prog 66 #[.slice (some ⟨blk, off, none⟩) n cap, .int .i64 a, .int .i64 b, ofV] w fun e w' => e = .returned (.tuple #[]) ∧ SW w0 blk off n (insertionSort ltE d a b) w' := by
  have mixed : Try.prog.follows .mixedOrders = true := by kernel_rfl
  have hn := S.small
  have S0 := Lib.hid S
  clear S
  go_enter Try.func66, Try.ntmps66
  go_wp2
  go_loopg [8] (b - a) (fun g1 vi wr => ∃ (i : Nat) (dk : Array Edge), vi = .int .i64 i ∧ a < i ∧ i ≤ b + 1 ∧ b + 1 - i ≤ g1 + 1 ∧ Hid (SW w0 blk off n dk wr) ∧ Hid (insOuter ltE a b i dk = insOuter ltE a b (a + 1) d))
  case atStart => exact ⟨a + 1, d, by go_num, by omega, by omega, by omega, S0, rfl⟩
  case round =>
    clear S0
    obtain ⟨i, dk, rfl, hai, hib, hg1, S1, HO⟩ := hrel
    by_cases hlt : i < b
    · go_wp2
      go_loopg [9] i (fun g2 vj wr2 => ∃ (j : Nat) (dj : Array Edge), vj = .int .i64 j ∧ a ≤ j ∧ j ≤ i ∧ j ≤ g2 ∧ Hid (SW w0 blk off n dj wr2) ∧ Hid (insInner ltE a j dj = insInner ltE a i dk))
      case atStart => exact ⟨i, dk, rfl, by omega, Nat.le_refl _, Nat.le_refl _, S1, rfl⟩
      case round =>
        clear S1
        obtain ⟨j, dj, rfl, haj, hji, hg2, S2, HI⟩ := hrel
        have out : (j ≤ a ∨ ltE dj[j]! dj[j - 1]! = false) → Hid (insOuter ltE a b (i + 1) dj = insOuter ltE a b (a + 1) d) := fun hs => by
          show _ = _
          rw [← HO.out, insOuter_go _ _ _ _ _ hlt, ← HI.out, insInner_stop _ _ _ _ hs]
        have OUT := Lib.hid out
        clear out
        by_cases hja : a < j
        · obtain ⟨jp, rfl⟩ : ∃ jp, j = jp + 1 := ⟨j - 1, by omega⟩
          have hjaz' : (a : Int) < (jp : Int) + 1 := by omega
          cases hL : ltE dj[jp + 1]! dj[jp]! with
          | true =>
            have q2ia : ((jp : Int) + 1).toNat = jp + 1 := by omega
            have q2ib : 0 ≤ ((jp : Int) + 1) := by omega
            have q2ic : ((jp : Int) + 1) < (n : Int) := by omega
            have q2id : IntKind.i64.wrap ((jp : Int) + 1) = (jp : Int) + 1 := by rw [IntKind.wrap_i64]; omega
            have q2ka : ((jp : Int)).toNat = jp := by omega
            have q2kb : 0 ≤ ((jp : Int)) := by omega
            have q2kc : ((jp : Int)) < (n : Int) := by omega
            have q2kd : IntKind.i64.wrap ((jp : Int)) = (jp : Int) := by rw [IntKind.wrap_i64]; omega
            obtain ⟨q2x, q2y, q21, q22, q23, q24, q25, q26⟩ := S2.out.ask (jp + 1) (jp) (by omega) (by omega) hL
            have q2H := Lib.hid q25
            clear q25
            go_wp2_with fail
            go_quiet_grown ((go_at_call 48; exact q2H.out _ _))
            have S3 := Lib.hid (S2.out.grown nq osq)
            clear q21 q22 q23 q24 q2H S2 q2ia q2ib q2ic q2id q2ka q2kb q2kc q2kd
            generalize grow (wr.drewN nq) osq = w3 at S3 ⊢
            clear nq osq
            go_wp2_with fail
            have q3ia : ((jp : Int) + 1).toNat = jp + 1 := by omega
            have q3ib : 0 ≤ ((jp : Int) + 1) := by omega
            have q3ic : ((jp : Int) + 1) < (n : Int) := by omega
            have q3id : IntKind.i64.wrap ((jp : Int) + 1) = (jp : Int) + 1 := by rw [IntKind.wrap_i64]; omega
            have q3ka : ((jp : Int)).toNat = jp := by omega
            have q3kb : 0 ≤ ((jp : Int)) := by omega
            have q3kc : ((jp : Int)) < (n : Int) := by omega
            have q3kd : IntKind.i64.wrap ((jp : Int)) = (jp : Int) := by rw [IntKind.wrap_i64]; omega
            obtain ⟨q3x, q3y, q31, q32, q33, q34, q35, q36, q37, q38, ⟨q3u, q39⟩, ⟨q3v, q310⟩, ⟨q3w, q311⟩, q3S⟩ := S3.out.swaps (jp + 1) (jp) (by omega) (by omega)
            have S4 := Lib.hid q3S
            clear q3S S3
            go_wp2_with fail
            go_big_region
            clear q31 q32 q33 q34 q35 q36 q37 q38 q39 q310 q311 q3ia q3ib q3ic q3id q3ka q3kb q3kc q3kd
            generalize ((((w3.setCell ⟨blk, off + (jp + 1) * 2, none⟩ (.int .i64 q3y.1)).setCell ⟨blk, off + (jp + 1) * 2 + 1, none⟩ (.int .i64 q3y.2)).setCell ⟨blk, off + jp * 2, none⟩ (.int .i64 q3x.1)).setCell ⟨blk, off + jp * 2 + 1, none⟩ (.int .i64 q3x.2)).drew = w4 at S4 ⊢
            all_goals go_wp2
            go_roundg jp
            case measure => omega
            case rel =>
              refine ⟨jp, swp dj (jp + 1) jp, by first | rfl | go_num | (congr 1; omega), by omega, by omega, Nat.le_refl _, S4, (show Hid _ from ?_)⟩
              show _ = _
              have := insInner_go ltE a (jp + 1) dj hja (by simp only [Nat.add_sub_cancel]; exact hL)
              simp only [Nat.add_sub_cancel] at this
              rw [← HI.out, this]
          | false =>
            have q4ia : ((jp : Int) + 1).toNat = jp + 1 := by omega
            have q4ib : 0 ≤ ((jp : Int) + 1) := by omega
            have q4ic : ((jp : Int) + 1) < (n : Int) := by omega
            have q4id : IntKind.i64.wrap ((jp : Int) + 1) = (jp : Int) + 1 := by rw [IntKind.wrap_i64]; omega
            have q4ka : ((jp : Int)).toNat = jp := by omega
            have q4kb : 0 ≤ ((jp : Int)) := by omega
            have q4kc : ((jp : Int)) < (n : Int) := by omega
            have q4kd : IntKind.i64.wrap ((jp : Int)) = (jp : Int) := by rw [IntKind.wrap_i64]; omega
            obtain ⟨q4x, q4y, q41, q42, q43, q44, q45, q46⟩ := S2.out.ask (jp + 1) (jp) (by omega) (by omega) hL
            have q4H := Lib.hid q45
            clear q45
            go_wp2_with fail
            go_quiet_grown ((go_at_call 48; exact q4H.out _ _))
            have S3 := Lib.hid (S2.out.grown nq osq)
            clear q41 q42 q43 q44 q4H S2 q4ia q4ib q4ic q4id q4ka q4kb q4kc q4kd
            generalize grow (wr.drewN nq) osq = w3 at S3 ⊢
            clear nq osq
            go_wp2
            go_roundg (b - (i + 1))
            case measure => omega
            case rel => exact ⟨i + 1, dj, by go_num, by omega, by omega, by omega, S3, OUT.out (Or.inr (by simp only [Nat.add_sub_cancel]; exact hL))⟩
        · have hjaz : decide ((j : Int) > (a : Int)) = false := decide_eq_false (by omega)
          have hjaz' : ¬ (a : Int) < (j : Int) := by omega
          have S3 := Lib.hid S2.out.drew
          clear S2
          go_wp2_with fail
          go_big_region
          generalize wr.drew = w3 at S3 ⊢
          all_goals go_wp2
          go_roundg (b - (i + 1))
          case measure => omega
          case rel => exact ⟨i + 1, dj, by go_num, by omega, by omega, by omega, S3, OUT.out (Or.inl (by omega))⟩
    · go_wp2
      go_end0
      refine ⟨rfl, ?_⟩
      have e : dk = insertionSort ltE d a b := by unfold insertionSort; rw [← HO.out, insOuter_stop _ _ _ _ _ hlt]
      rw [← e]; exact S1.out

end Go.Proofs.Ytgmgofcclddkiaa
