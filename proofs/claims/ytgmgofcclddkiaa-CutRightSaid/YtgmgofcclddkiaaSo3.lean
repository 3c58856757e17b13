/- Parts of the sort of edges: siftDown and heapSort: what they leave is what the plain twin says. -/
import Derived.Test.YtgmgofcclddkiaaSo2
import Derived.Sort.WalkB3
import Derived.BigRegion
namespace Go.Proofs.Ytgmgofcclddkiaa
open Go.RowKit Go.Sort Go.Proofs Go.Shelf
set_option maxRecDepth 1000000 in
set_option maxHeartbeats 8000000 in
theorem sift_t (w0 w : World) (blk off n cap lo hi first : Nat) (d : Array Edge) (S : SW w0 blk off n d w) (hlo : lo ≤ hi) (hb : first + hi ≤ n) :
    Calls Try.prog 81 #[.slice (some ⟨blk, off, none⟩) n cap, .int .i64 lo, .int .i64 hi, .int .i64 first, ofV] w fun e w' => e = .returned (.tuple #[]) ∧ SW w0 blk off n (siftDown ltE hi first lo d) w' := by
  have mixed : Try.prog.follows .mixedOrders = true := by kernel_rfl
  have hn := S.small
  have S0 := Lib.hid S
  clear S
  go_enter Try.func81, Try.ntmps81
  go_wp2
  go_loopg [10] (hi - lo) (fun kx s10 wr => ∃ (root : Nat) (dk : Array Edge), s10 = .int .i64 root ∧ root ≤ hi ∧ hi - root ≤ kx ∧ Hid (SW w0 blk off n dk wr) ∧ Hid (siftDown ltE hi first root dk = siftDown ltE hi first lo d))
  case atStart => exact ⟨lo, d, rfl, hlo, Nat.le_refl _, S0, rfl⟩
  case round =>
    obtain ⟨root, dk, rfl, hr, hkx, S1, HE⟩ := hrel
    clear S0
    by_cases h0 : hi ≤ 2 * root + 1
    · have h0z : (hi : Int) ≤ 2 * (root : Int) + 1 := by omega
      go_wp2
      go_end0
      refine ⟨rfl, ?_⟩
      rw [← HE.out, sd_end ltE dk h0]
      exact S1.out
    · have h0z : ¬ ((hi : Int) ≤ 2 * (root : Int) + 1) := by omega
      have rch : IntKind.i64.wrap (2 * (root : Int) + 1 + 1) = 2 * (root : Int) + 1 + 1 := by rw [IntKind.wrap_i64]; omega
      by_cases h1 : 2 * root + 2 < hi
      · have h1z : 2 * (root : Int) + 1 + 1 < (hi : Int) := by omega
        cases hL : ltE dk[first + (2 * root + 1)]! dk[first + (2 * root + 2)]! with
        | true =>
          have q5ia : ((first : Int) + (2 * (root : Int) + 1)).toNat = first + (2 * root + 1) := by omega
          have q5ib : 0 ≤ ((first : Int) + (2 * (root : Int) + 1)) := by omega
          have q5ic : ((first : Int) + (2 * (root : Int) + 1)) < (n : Int) := by omega
          have q5id : IntKind.i64.wrap ((first : Int) + (2 * (root : Int) + 1)) = (first : Int) + (2 * (root : Int) + 1) := by rw [IntKind.wrap_i64]; omega
          have q5ka : ((first : Int) + (2 * (root : Int) + 1) + 1).toNat = first + (2 * root + 2) := by omega
          have q5kb : 0 ≤ ((first : Int) + (2 * (root : Int) + 1) + 1) := by omega
          have q5kc : ((first : Int) + (2 * (root : Int) + 1) + 1) < (n : Int) := by omega
          have q5kd : IntKind.i64.wrap ((first : Int) + (2 * (root : Int) + 1) + 1) = (first : Int) + (2 * (root : Int) + 1) + 1 := by rw [IntKind.wrap_i64]; omega
          obtain ⟨q5x, q5y, q51, q52, q53, q54, q55, q56⟩ := S1.out.ask (first + (2 * root + 1)) (first + (2 * root + 2)) (by omega) (by omega) hL
          have q5H := Lib.hid q55
          clear q55
          go_wp2_with fail
          go_quiet_grown ((go_at_call 48; exact q5H.out _ _))
          have S2 := Lib.hid (S1.out.grown nq osq)
          clear q51 q52 q53 q54 q5H S1 q5ia q5ib q5ic q5id q5ka q5kb q5kc q5kd
          generalize grow (wr.drewN nq) osq = w2 at S2 ⊢
          clear nq osq
          go_wp2_with fail
          cases hG : ltE dk[first + root]! dk[first + (2 * root + 2)]! with
          | true =>
            have q6ia : ((first : Int) + (root : Int)).toNat = first + root := by omega
            have q6ib : 0 ≤ ((first : Int) + (root : Int)) := by omega
            have q6ic : ((first : Int) + (root : Int)) < (n : Int) := by omega
            have q6id : IntKind.i64.wrap ((first : Int) + (root : Int)) = (first : Int) + (root : Int) := by rw [IntKind.wrap_i64]; omega
            have q6ka : ((first : Int) + (2 * (root : Int) + 1 + 1)).toNat = first + (2 * root + 2) := by omega
            have q6kb : 0 ≤ ((first : Int) + (2 * (root : Int) + 1 + 1)) := by omega
            have q6kc : ((first : Int) + (2 * (root : Int) + 1 + 1)) < (n : Int) := by omega
            have q6kd : IntKind.i64.wrap ((first : Int) + (2 * (root : Int) + 1 + 1)) = (first : Int) + (2 * (root : Int) + 1 + 1) := by rw [IntKind.wrap_i64]; omega
            obtain ⟨q6x, q6y, q61, q62, q63, q64, q65, q66⟩ := S2.out.ask (first + root) (first + (2 * root + 2)) (by omega) (by omega) hG
            have q6H := Lib.hid q65
            clear q65
            go_wp2_with fail
            go_quiet_grown ((go_at_call 48; exact q6H.out _ _))
            have S3 := Lib.hid (S2.out.grown nq osq)
            clear q61 q62 q63 q64 q6H S2 q6ia q6ib q6ic q6id q6ka q6kb q6kc q6kd
            generalize grow (w2.drewN nq) osq = w3 at S3 ⊢
            clear nq osq
            have q7ia : ((first : Int) + (root : Int)).toNat = first + root := by omega
            have q7ib : 0 ≤ ((first : Int) + (root : Int)) := by omega
            have q7ic : ((first : Int) + (root : Int)) < (n : Int) := by omega
            have q7id : IntKind.i64.wrap ((first : Int) + (root : Int)) = (first : Int) + (root : Int) := by rw [IntKind.wrap_i64]; omega
            have q7ka : ((first : Int) + (2 * (root : Int) + 1 + 1)).toNat = first + (2 * root + 2) := by omega
            have q7kb : 0 ≤ ((first : Int) + (2 * (root : Int) + 1 + 1)) := by omega
            have q7kc : ((first : Int) + (2 * (root : Int) + 1 + 1)) < (n : Int) := by omega
            have q7kd : IntKind.i64.wrap ((first : Int) + (2 * (root : Int) + 1 + 1)) = (first : Int) + (2 * (root : Int) + 1 + 1) := by rw [IntKind.wrap_i64]; omega
            obtain ⟨q7x, q7y, q71, q72, q73, q74, q75, q76, q77, q78, ⟨q7u, q79⟩, ⟨q7v, q710⟩, ⟨q7w, q711⟩, q7S⟩ := S3.out.swaps (first + root) (first + (2 * root + 2)) (by omega) (by omega)
            have S4 := Lib.hid q7S
            clear q7S S3
            go_wp2_with fail
            go_big_region
            clear q71 q72 q73 q74 q75 q76 q77 q78 q79 q710 q711 q7ia q7ib q7ic q7id q7ka q7kb q7kc q7kd
            generalize ((((w3.setCell ⟨blk, off + (first + root) * 2, none⟩ (.int .i64 q7y.1)).setCell ⟨blk, off + (first + root) * 2 + 1, none⟩ (.int .i64 q7y.2)).setCell ⟨blk, off + (first + (2 * root + 2)) * 2, none⟩ (.int .i64 q7x.1)).setCell ⟨blk, off + (first + (2 * root + 2)) * 2 + 1, none⟩ (.int .i64 q7x.2)).drew = w4 at S4 ⊢
            go_wp2
            go_roundg (hi - (2 * root + 2))
            case measure => omega
            case rel => exact ⟨2 * root + 2, swp dk (first + root) (first + (2 * root + 2)), by go_num, by omega, Nat.le_refl _, S4, (show Hid _ from by rw [← HE.out, sd_right_go ltE dk h1 hL hG]; exact rfl)⟩
          | false =>
            have q8ia : ((first : Int) + (root : Int)).toNat = first + root := by omega
            have q8ib : 0 ≤ ((first : Int) + (root : Int)) := by omega
            have q8ic : ((first : Int) + (root : Int)) < (n : Int) := by omega
            have q8id : IntKind.i64.wrap ((first : Int) + (root : Int)) = (first : Int) + (root : Int) := by rw [IntKind.wrap_i64]; omega
            have q8ka : ((first : Int) + (2 * (root : Int) + 1 + 1)).toNat = first + (2 * root + 2) := by omega
            have q8kb : 0 ≤ ((first : Int) + (2 * (root : Int) + 1 + 1)) := by omega
            have q8kc : ((first : Int) + (2 * (root : Int) + 1 + 1)) < (n : Int) := by omega
            have q8kd : IntKind.i64.wrap ((first : Int) + (2 * (root : Int) + 1 + 1)) = (first : Int) + (2 * (root : Int) + 1 + 1) := by rw [IntKind.wrap_i64]; omega
            obtain ⟨q8x, q8y, q81, q82, q83, q84, q85, q86⟩ := S2.out.ask (first + root) (first + (2 * root + 2)) (by omega) (by omega) hG
            have q8H := Lib.hid q85
            clear q85
            go_wp2_with fail
            go_quiet_grown ((go_at_call 48; exact q8H.out _ _))
            have S3 := Lib.hid (S2.out.grown nq osq)
            clear q81 q82 q83 q84 q8H S2 q8ia q8ib q8ic q8id q8ka q8kb q8kc q8kd
            generalize grow (w2.drewN nq) osq = w3 at S3 ⊢
            clear nq osq
            go_wp2
            (try simp only [Exit.inBlock, Exit.then]); refine bodyPost_ret (results_none rfl _ _ _) rfl ?_
            refine ⟨rfl, ?_⟩
            rw [← HE.out, sd_right_stop ltE dk h1 hL hG]
            exact S3.out
        | false =>
          have q9ia : ((first : Int) + (2 * (root : Int) + 1)).toNat = first + (2 * root + 1) := by omega
          have q9ib : 0 ≤ ((first : Int) + (2 * (root : Int) + 1)) := by omega
          have q9ic : ((first : Int) + (2 * (root : Int) + 1)) < (n : Int) := by omega
          have q9id : IntKind.i64.wrap ((first : Int) + (2 * (root : Int) + 1)) = (first : Int) + (2 * (root : Int) + 1) := by rw [IntKind.wrap_i64]; omega
          have q9ka : ((first : Int) + (2 * (root : Int) + 1) + 1).toNat = first + (2 * root + 2) := by omega
          have q9kb : 0 ≤ ((first : Int) + (2 * (root : Int) + 1) + 1) := by omega
          have q9kc : ((first : Int) + (2 * (root : Int) + 1) + 1) < (n : Int) := by omega
          have q9kd : IntKind.i64.wrap ((first : Int) + (2 * (root : Int) + 1) + 1) = (first : Int) + (2 * (root : Int) + 1) + 1 := by rw [IntKind.wrap_i64]; omega
          obtain ⟨q9x, q9y, q91, q92, q93, q94, q95, q96⟩ := S1.out.ask (first + (2 * root + 1)) (first + (2 * root + 2)) (by omega) (by omega) hL
          have q9H := Lib.hid q95
          clear q95
          go_wp2_with fail
          go_quiet_grown ((go_at_call 48; exact q9H.out _ _))
          have S2 := Lib.hid (S1.out.grown nq osq)
          clear q91 q92 q93 q94 q9H S1 q9ia q9ib q9ic q9id q9ka q9kb q9kc q9kd
          generalize grow (wr.drewN nq) osq = w2 at S2 ⊢
          clear nq osq
          go_wp2_with fail
          cases hG : ltE dk[first + root]! dk[first + (2 * root + 1)]! with
          | true =>
            have q10ia : ((first : Int) + (root : Int)).toNat = first + root := by omega
            have q10ib : 0 ≤ ((first : Int) + (root : Int)) := by omega
            have q10ic : ((first : Int) + (root : Int)) < (n : Int) := by omega
            have q10id : IntKind.i64.wrap ((first : Int) + (root : Int)) = (first : Int) + (root : Int) := by rw [IntKind.wrap_i64]; omega
            have q10ka : ((first : Int) + (2 * (root : Int) + 1)).toNat = first + (2 * root + 1) := by omega
            have q10kb : 0 ≤ ((first : Int) + (2 * (root : Int) + 1)) := by omega
            have q10kc : ((first : Int) + (2 * (root : Int) + 1)) < (n : Int) := by omega
            have q10kd : IntKind.i64.wrap ((first : Int) + (2 * (root : Int) + 1)) = (first : Int) + (2 * (root : Int) + 1) := by rw [IntKind.wrap_i64]; omega
            obtain ⟨q10x, q10y, q101, q102, q103, q104, q105, q106⟩ := S2.out.ask (first + root) (first + (2 * root + 1)) (by omega) (by omega) hG
            have q10H := Lib.hid q105
            clear q105
            go_wp2_with fail
            go_quiet_grown ((go_at_call 48; exact q10H.out _ _))
            have S3 := Lib.hid (S2.out.grown nq osq)
            clear q101 q102 q103 q104 q10H S2 q10ia q10ib q10ic q10id q10ka q10kb q10kc q10kd
            generalize grow (w2.drewN nq) osq = w3 at S3 ⊢
            clear nq osq
            have q11ia : ((first : Int) + (root : Int)).toNat = first + root := by omega
            have q11ib : 0 ≤ ((first : Int) + (root : Int)) := by omega
            have q11ic : ((first : Int) + (root : Int)) < (n : Int) := by omega
            have q11id : IntKind.i64.wrap ((first : Int) + (root : Int)) = (first : Int) + (root : Int) := by rw [IntKind.wrap_i64]; omega
            have q11ka : ((first : Int) + (2 * (root : Int) + 1)).toNat = first + (2 * root + 1) := by omega
            have q11kb : 0 ≤ ((first : Int) + (2 * (root : Int) + 1)) := by omega
            have q11kc : ((first : Int) + (2 * (root : Int) + 1)) < (n : Int) := by omega
            have q11kd : IntKind.i64.wrap ((first : Int) + (2 * (root : Int) + 1)) = (first : Int) + (2 * (root : Int) + 1) := by rw [IntKind.wrap_i64]; omega
            obtain ⟨q11x, q11y, q111, q112, q113, q114, q115, q116, q117, q118, ⟨q11u, q119⟩, ⟨q11v, q1110⟩, ⟨q11w, q1111⟩, q11S⟩ := S3.out.swaps (first + root) (first + (2 * root + 1)) (by omega) (by omega)
            have S4 := Lib.hid q11S
            clear q11S S3
            go_wp2_with fail
            go_big_region
            clear q111 q112 q113 q114 q115 q116 q117 q118 q119 q1110 q1111 q11ia q11ib q11ic q11id q11ka q11kb q11kc q11kd
            generalize ((((w3.setCell ⟨blk, off + (first + root) * 2, none⟩ (.int .i64 q11y.1)).setCell ⟨blk, off + (first + root) * 2 + 1, none⟩ (.int .i64 q11y.2)).setCell ⟨blk, off + (first + (2 * root + 1)) * 2, none⟩ (.int .i64 q11x.1)).setCell ⟨blk, off + (first + (2 * root + 1)) * 2 + 1, none⟩ (.int .i64 q11x.2)).drew = w4 at S4 ⊢
            go_wp2
            go_roundg (hi - (2 * root + 1))
            case measure => omega
            case rel => exact ⟨2 * root + 1, swp dk (first + root) (first + (2 * root + 1)), by go_num, by omega, Nat.le_refl _, S4, (show Hid _ from by rw [← HE.out, sd_left_go ltE dk (by omega) (fun _ => hL) hG]; exact rfl)⟩
          | false =>
            have q12ia : ((first : Int) + (root : Int)).toNat = first + root := by omega
            have q12ib : 0 ≤ ((first : Int) + (root : Int)) := by omega
            have q12ic : ((first : Int) + (root : Int)) < (n : Int) := by omega
            have q12id : IntKind.i64.wrap ((first : Int) + (root : Int)) = (first : Int) + (root : Int) := by rw [IntKind.wrap_i64]; omega
            have q12ka : ((first : Int) + (2 * (root : Int) + 1)).toNat = first + (2 * root + 1) := by omega
            have q12kb : 0 ≤ ((first : Int) + (2 * (root : Int) + 1)) := by omega
            have q12kc : ((first : Int) + (2 * (root : Int) + 1)) < (n : Int) := by omega
            have q12kd : IntKind.i64.wrap ((first : Int) + (2 * (root : Int) + 1)) = (first : Int) + (2 * (root : Int) + 1) := by rw [IntKind.wrap_i64]; omega
            obtain ⟨q12x, q12y, q121, q122, q123, q124, q125, q126⟩ := S2.out.ask (first + root) (first + (2 * root + 1)) (by omega) (by omega) hG
            have q12H := Lib.hid q125
            clear q125
            go_wp2_with fail
            go_quiet_grown ((go_at_call 48; exact q12H.out _ _))
            have S3 := Lib.hid (S2.out.grown nq osq)
            clear q121 q122 q123 q124 q12H S2 q12ia q12ib q12ic q12id q12ka q12kb q12kc q12kd
            generalize grow (w2.drewN nq) osq = w3 at S3 ⊢
            clear nq osq
            go_wp2
            (try simp only [Exit.inBlock, Exit.then]); refine bodyPost_ret (results_none rfl _ _ _) rfl ?_
            refine ⟨rfl, ?_⟩
            rw [← HE.out, sd_left_stop ltE dk (by omega) (fun _ => hL) hG]
            exact S3.out
      · have h1z : ¬ (2 * (root : Int) + 1 + 1 < (hi : Int)) := by omega
        have h1d : decide (2 * (root : Int) + 1 + 1 < (hi : Int)) = false := decide_eq_false h1z
        have S2 := Lib.hid S1.out.drew
        clear S1
        go_wp2_with fail
        go_big_region
        generalize wr.drew = w2 at S2 ⊢
        go_wp2_with fail
        cases hG : ltE dk[first + root]! dk[first + (2 * root + 1)]! with
        | true =>
          have q13ia : ((first : Int) + (root : Int)).toNat = first + root := by omega
          have q13ib : 0 ≤ ((first : Int) + (root : Int)) := by omega
          have q13ic : ((first : Int) + (root : Int)) < (n : Int) := by omega
          have q13id : IntKind.i64.wrap ((first : Int) + (root : Int)) = (first : Int) + (root : Int) := by rw [IntKind.wrap_i64]; omega
          have q13ka : ((first : Int) + (2 * (root : Int) + 1)).toNat = first + (2 * root + 1) := by omega
          have q13kb : 0 ≤ ((first : Int) + (2 * (root : Int) + 1)) := by omega
          have q13kc : ((first : Int) + (2 * (root : Int) + 1)) < (n : Int) := by omega
          have q13kd : IntKind.i64.wrap ((first : Int) + (2 * (root : Int) + 1)) = (first : Int) + (2 * (root : Int) + 1) := by rw [IntKind.wrap_i64]; omega
          obtain ⟨q13x, q13y, q131, q132, q133, q134, q135, q136⟩ := S2.out.ask (first + root) (first + (2 * root + 1)) (by omega) (by omega) hG
          have q13H := Lib.hid q135
          clear q135
          go_wp2_with fail
          go_quiet_grown ((go_at_call 48; exact q13H.out _ _))
          have S3 := Lib.hid (S2.out.grown nq osq)
          clear q131 q132 q133 q134 q13H S2 q13ia q13ib q13ic q13id q13ka q13kb q13kc q13kd
          generalize grow (w2.drewN nq) osq = w3 at S3 ⊢
          clear nq osq
          have q14ia : ((first : Int) + (root : Int)).toNat = first + root := by omega
          have q14ib : 0 ≤ ((first : Int) + (root : Int)) := by omega
          have q14ic : ((first : Int) + (root : Int)) < (n : Int) := by omega
          have q14id : IntKind.i64.wrap ((first : Int) + (root : Int)) = (first : Int) + (root : Int) := by rw [IntKind.wrap_i64]; omega
          have q14ka : ((first : Int) + (2 * (root : Int) + 1)).toNat = first + (2 * root + 1) := by omega
          have q14kb : 0 ≤ ((first : Int) + (2 * (root : Int) + 1)) := by omega
          have q14kc : ((first : Int) + (2 * (root : Int) + 1)) < (n : Int) := by omega
          have q14kd : IntKind.i64.wrap ((first : Int) + (2 * (root : Int) + 1)) = (first : Int) + (2 * (root : Int) + 1) := by rw [IntKind.wrap_i64]; omega
          obtain ⟨q14x, q14y, q141, q142, q143, q144, q145, q146, q147, q148, ⟨q14u, q149⟩, ⟨q14v, q1410⟩, ⟨q14w, q1411⟩, q14S⟩ := S3.out.swaps (first + root) (first + (2 * root + 1)) (by omega) (by omega)
          have S4 := Lib.hid q14S
          clear q14S S3
          go_wp2_with fail
          go_big_region
          clear q141 q142 q143 q144 q145 q146 q147 q148 q149 q1410 q1411 q14ia q14ib q14ic q14id q14ka q14kb q14kc q14kd
          generalize ((((w3.setCell ⟨blk, off + (first + root) * 2, none⟩ (.int .i64 q14y.1)).setCell ⟨blk, off + (first + root) * 2 + 1, none⟩ (.int .i64 q14y.2)).setCell ⟨blk, off + (first + (2 * root + 1)) * 2, none⟩ (.int .i64 q14x.1)).setCell ⟨blk, off + (first + (2 * root + 1)) * 2 + 1, none⟩ (.int .i64 q14x.2)).drew = w4 at S4 ⊢
          go_wp2
          go_roundg (hi - (2 * root + 1))
          case measure => omega
          case rel => exact ⟨2 * root + 1, swp dk (first + root) (first + (2 * root + 1)), by go_num, by omega, Nat.le_refl _, S4, (show Hid _ from by rw [← HE.out, sd_left_go ltE dk (by omega) (fun h => absurd h h1) hG]; exact rfl)⟩
        | false =>
          have q15ia : ((first : Int) + (root : Int)).toNat = first + root := by omega
          have q15ib : 0 ≤ ((first : Int) + (root : Int)) := by omega
          have q15ic : ((first : Int) + (root : Int)) < (n : Int) := by omega
          have q15id : IntKind.i64.wrap ((first : Int) + (root : Int)) = (first : Int) + (root : Int) := by rw [IntKind.wrap_i64]; omega
          have q15ka : ((first : Int) + (2 * (root : Int) + 1)).toNat = first + (2 * root + 1) := by omega
          have q15kb : 0 ≤ ((first : Int) + (2 * (root : Int) + 1)) := by omega
          have q15kc : ((first : Int) + (2 * (root : Int) + 1)) < (n : Int) := by omega
          have q15kd : IntKind.i64.wrap ((first : Int) + (2 * (root : Int) + 1)) = (first : Int) + (2 * (root : Int) + 1) := by rw [IntKind.wrap_i64]; omega
          obtain ⟨q15x, q15y, q151, q152, q153, q154, q155, q156⟩ := S2.out.ask (first + root) (first + (2 * root + 1)) (by omega) (by omega) hG
          have q15H := Lib.hid q155
          clear q155
          go_wp2_with fail
          go_quiet_grown ((go_at_call 48; exact q15H.out _ _))
          have S3 := Lib.hid (S2.out.grown nq osq)
          clear q151 q152 q153 q154 q15H S2 q15ia q15ib q15ic q15id q15ka q15kb q15kc q15kd
          generalize grow (w2.drewN nq) osq = w3 at S3 ⊢
          clear nq osq
          go_wp2
          (try simp only [Exit.inBlock, Exit.then]); refine bodyPost_ret (results_none rfl _ _ _) rfl ?_
          refine ⟨rfl, ?_⟩
          rw [← HE.out, sd_left_stop ltE dk (by omega) (fun h => absurd h h1) hG]
          exact S3.out

set_option maxRecDepth 1000000 in
set_option maxHeartbeats 8000000 in
theorem heap_t (w0 w : World) (blk off n cap a b : Nat) (d : Array Edge) (S : SW w0 blk off n d w) (hab : a ≤ b) (hb : b ≤ n) :
    Calls Try.prog 67 #[.slice (some ⟨blk, off, none⟩) n cap, .int .i64 a, .int .i64 b, ofV] w fun e w' => e = .returned (.tuple #[]) ∧ SW w0 blk off n (heapSort ltE d a b) w' := by
  have mixed : Try.prog.follows .mixedOrders = true := by kernel_rfl
  have hn := S.small
  have S0 := Lib.hid S
  clear S
  have ecast : ((b - a : Nat) : Int) = (b : Int) - (a : Int) := by omega
  have ECAST := Lib.hid ecast
  go_enter Try.func67, Try.ntmps67
  go_wp2
  go_loopg [11] ((b - a - 1) / 2 + 1) (fun kx s11 wr => s11 = .int .i64 ((kx : Int) - 1) ∧ kx ≤ (b - a - 1) / 2 + 1 ∧ ∃ (dk : Array Edge), Hid (SW w0 blk off n dk wr) ∧
    Hid (heapBuild ltE (b - a) a kx dk = heapBuild ltE (b - a) a ((b - a - 1) / 2 + 1) d))
  case atStart => exact ⟨by rw [half_start hab], Nat.le_refl _, d, S0, rfl⟩
  case round =>
    clear S0
    obtain ⟨rfl, hkk, dk, S1, HE⟩ := hrel
    cases gk with
    | zero =>
      have hB : dk = heapBuild ltE (b - a) a ((b - a - 1) / 2 + 1) d := HE.out
      have HB := Lib.hid hB
      clear HE hkk hB
      go_wp2
      go_loopg [12] (b - a) (fun kx s12 wr2 => s12 = .int .i64 ((kx : Int) - 1) ∧ kx ≤ b - a ∧ ∃ (dj : Array Edge), Hid (SW w0 blk off n dj wr2) ∧ Hid (heapPop ltE a kx dj = heapPop ltE a (b - a) dk))
      case atStart => exact ⟨by rw [ECAST.out], Nat.le_refl _, dk, S1, rfl⟩
      case round =>
        clear S1
        obtain ⟨rfl, hkk, dj, S1, HE2⟩ := hrel
        cases gk with
        | zero =>
          go_wp2
          go_end0
          have e : dj = heapSort ltE d a b := by rw [heapSort, ← HB.out, ← HE2.out]; rfl
          rw [← e]
          exact ⟨rfl, S1.out⟩
        | succ kx =>
          have ekx : ((kx + 1 : Nat) : Int) - 1 = (kx : Int) := by omega
          clear ecast
          go_wp2_with fail
          have q16ia : ((a : Int)).toNat = a := by omega
          have q16ib : 0 ≤ ((a : Int)) := by omega
          have q16ic : ((a : Int)) < (n : Int) := by omega
          have q16id : IntKind.i64.wrap ((a : Int)) = (a : Int) := by rw [IntKind.wrap_i64]; omega
          have q16ka : ((a : Int) + (kx : Int)).toNat = a + kx := by omega
          have q16kb : 0 ≤ ((a : Int) + (kx : Int)) := by omega
          have q16kc : ((a : Int) + (kx : Int)) < (n : Int) := by omega
          have q16kd : IntKind.i64.wrap ((a : Int) + (kx : Int)) = (a : Int) + (kx : Int) := by rw [IntKind.wrap_i64]; omega
          obtain ⟨q16x, q16y, q161, q162, q163, q164, q165, q166, q167, q168, ⟨q16u, q169⟩, ⟨q16v, q1610⟩, ⟨q16w, q1611⟩, q16S⟩ := S1.out.swaps (a) (a + kx) (by omega) (by omega)
          have S2 := Lib.hid q16S
          clear q16S S1
          go_wp2_with fail
          go_big_region
          clear q161 q162 q163 q164 q165 q166 q167 q168 q169 q1610 q1611 q16ia q16ib q16ic q16id q16ka q16kb q16kc q16kd
          generalize ((((wr.setCell ⟨blk, off + a * 2, none⟩ (.int .i64 q16y.1)).setCell ⟨blk, off + a * 2 + 1, none⟩ (.int .i64 q16y.2)).setCell ⟨blk, off + (a + kx) * 2, none⟩ (.int .i64 q16x.1)).setCell ⟨blk, off + (a + kx) * 2 + 1, none⟩ (.int .i64 q16x.2)).drew = w2 at S2 ⊢
          have hcall := Lib.hid (sift_t w0 w2 blk off n cap 0 kx a _ S2.out (Nat.zero_le _) (by omega))
          clear S2
          go_wp2_with (go_at_call 81; refine hcall.out.mono ?_; rintro e w1 ⟨rfl, S3⟩)
          have S4 := Lib.hid S3
          clear S3
          go_roundg kx
          case measure => omega
          case rel => exact ⟨by simp, by omega, siftDown ltE kx a 0 (swp dj a (a + kx)), S4, HE2⟩
    | succ kx =>
      have hcall := sift_t w0 wr blk off n cap kx (b - a) a _ S1.out (by omega) (by omega)
      rw [ecast] at hcall
      have HCALL := Lib.hid hcall
      clear S1 hcall ecast
      go_wp2_with (go_at_call 81; refine HCALL.out.mono ?_; rintro e w1 ⟨rfl, S3⟩)
      have S4 := Lib.hid S3
      clear S3
      go_roundg kx
      case measure => omega
      case rel => exact ⟨by simp, by omega, siftDown ltE (b - a) a kx dk, S4, HE⟩

end Go.Proofs.Ytgmgofcclddkiaa
