/- A part of the sort of edges: partialInsertionSort: what it leaves and answers is what the plain twin says. -/
import Derived.Test.YtgmgofcclddkiaaSo2
import Derived.Sort.WalkA6
import Derived.Deep.Cut
import Derived.Deep.CutBlock
import Derived.BigRegion
namespace Go.Proofs.Ytgmgofcclddkiaa
open Go.RowKit Go.Sort Go.Proofs Go.Shelf
set_option maxRecDepth 1000000 in
set_option maxHeartbeats 8000000 in
theorem partial_t (w0 w : World) (blk off n cap a b : Nat) (d : Array Edge) (S : SW w0 blk off n d w) (hab : a < b) (hb : b ≤ n) :
    Calls Try.prog 71 #[.slice (some ⟨blk, off, none⟩) n cap, .int .i64 a, .int .i64 b, ofV] w fun e w' =>
      e = .returned (.bool (partialInsertionSort ltE d a b).2) ∧ SW w0 blk off n (partialInsertionSort ltE d a b).1 w' := by
  have mixed : Try.prog.follows .mixedOrders = true := by kernel_rfl
  have hn := S.small
  have S0 := Lib.hid S
  clear S
  go_enter Try.func71, Try.ntmps71
  go_wp2
  go_loopg [9, 10] 5 (fun g1 vi vs wr => ∃ (i s : Nat) (dk : Array Edge), vi = .int .i64 i ∧ vs = .int .i64 s ∧ s ≤ 5 ∧ 5 - s ≤ g1 ∧ a < i ∧ i ≤ b ∧ Hid (SW w0 blk off n dk wr) ∧ Hid (partialIns ltE a b (5 - s) i dk = partialIns ltE a b 5 (a + 1) d))
  case atStart => exact ⟨a + 1, 0, d, by first | go_num | (congr 1; omega), rfl, by omega, by omega, by omega, by omega, S0, rfl⟩
  case round =>
    clear S0
    obtain ⟨i, s, dk, rfl, rfl, hs5, hg1, hai, hib, S1, HO⟩ := hrel
    by_cases hs' : s < 5
    · have hs := hs'
      have hsz5 : (s : Int) < 5 := by omega
      go_wp2
      go_loopg [9] (b - i) (fun g2 vi wr2 => ∃ (kx : Nat), vi = .int .i64 kx ∧ i ≤ kx ∧ kx ≤ b ∧ b - kx ≤ g2 ∧ Hid (SW w0 blk off n dk wr2) ∧ Hid (scanSorted ltE dk b kx = scanSorted ltE dk b i))
      case atStart => exact ⟨i, rfl, Nat.le_refl _, hib, Nat.le_refl _, S1, rfl⟩
      case round =>
        clear S1
        obtain ⟨kx, rfl, hik, hkb, hg2, S1, HSc⟩ := hrel
        obtain ⟨kp, rfl⟩ : ∃ q, kx = q + 1 := ⟨kx - 1, by omega⟩
        by_cases hkb' : kp + 1 < b
        · have hkz : (kp : Int) + 1 < (b : Int) := by omega
          have hkd : decide ((kp : Int) + 1 < (b : Int)) = true := decide_eq_true (by omega)
          cases hL : ltE dk[kp + 1]! dk[kp]! with
          | false =>
            have q19ia : ((kp : Int) + 1).toNat = kp + 1 := by omega
            have q19ib : 0 ≤ ((kp : Int) + 1) := by omega
            have q19ic : ((kp : Int) + 1) < (n : Int) := by omega
            have q19id : IntKind.i64.wrap ((kp : Int) + 1) = (kp : Int) + 1 := by rw [IntKind.wrap_i64]; omega
            have q19ka : ((kp : Int)).toNat = kp := by omega
            have q19kb : 0 ≤ ((kp : Int)) := by omega
            have q19kc : ((kp : Int)) < (n : Int) := by omega
            have q19kd : IntKind.i64.wrap ((kp : Int)) = (kp : Int) := by rw [IntKind.wrap_i64]; omega
            obtain ⟨q19x, q19y, q191, q192, q193, q194, q195, q196⟩ := S1.out.ask (kp + 1) (kp) (by omega) (by omega) hL
            have q19H := Lib.hid q195
            clear q195
            go_wp2_with fail
            go_quiet_grown ((go_at_call 48; exact q19H.out _ _))
            have S2 := Lib.hid (S1.out.grown nq osq)
            clear q191 q192 q193 q194 q19H S1 q19ia q19ib q19ic q19id q19ka q19kb q19kc q19kd
            generalize grow (wr.drewN nq) osq = w2 at S2 ⊢
            clear nq osq
            go_wp2
            go_roundg (b - (kp + 1 + 1))
            case measure => omega
            case rel => exact ⟨kp + 1 + 1, by first | go_num | (congr 1; omega), by omega, by omega, Nat.le_refl _, S2, (show Hid _ from by rw [← HSc.out, scanSorted_go ltE dk b (kp + 1) hkb' hL]; exact rfl)⟩
          | true =>
            have HK : Hid (scanSorted ltE dk b i = kp + 1) := by show _ = _; rw [← HSc.out, scanSorted_stop ltE dk b (kp + 1) (Or.inr hL)]
            have hkne : ((kp : Int) + 1 == (b : Int)) = false := beq_eq_false_iff_ne.2 (by omega)
            have q20ia : ((kp : Int) + 1).toNat = kp + 1 := by omega
            have q20ib : 0 ≤ ((kp : Int) + 1) := by omega
            have q20ic : ((kp : Int) + 1) < (n : Int) := by omega
            have q20id : IntKind.i64.wrap ((kp : Int) + 1) = (kp : Int) + 1 := by rw [IntKind.wrap_i64]; omega
            have q20ka : ((kp : Int)).toNat = kp := by omega
            have q20kb : 0 ≤ ((kp : Int)) := by omega
            have q20kc : ((kp : Int)) < (n : Int) := by omega
            have q20kd : IntKind.i64.wrap ((kp : Int)) = (kp : Int) := by rw [IntKind.wrap_i64]; omega
            obtain ⟨q20x, q20y, q201, q202, q203, q204, q205, q206⟩ := S1.out.ask (kp + 1) (kp) (by omega) (by omega) hL
            have q20H := Lib.hid q205
            clear q205
            go_wp2_with fail
            go_quiet_grown ((go_at_call 48; exact q20H.out _ _))
            have S2 := Lib.hid (S1.out.grown nq osq)
            clear q201 q202 q203 q204 q20H S1 q20ia q20ib q20ic q20id q20ka q20kb q20kc q20kd
            generalize grow (wr.drewN nq) osq = w2 at S2 ⊢
            clear nq osq
            by_cases h50 : b - a < 50
            · have h50z : (b : Int) - (a : Int) < 50 := by omega
              go_wp2
              have hv : partialInsertionSort ltE d a b = (dk, false) := by
                unfold partialInsertionSort
                rw [← HO.out, pi_short ltE a b s i dk hs (by rw [HK.out]; omega) h50]
              rw [hv]
              go_ret
              exact ⟨rfl, S2.out⟩
            · have h50z : ¬ ((b : Int) - (a : Int) < 50) := by omega
              go_wp2_with fail
              have q21ia : ((kp : Int) + 1).toNat = kp + 1 := by omega
              have q21ib : 0 ≤ ((kp : Int) + 1) := by omega
              have q21ic : ((kp : Int) + 1) < (n : Int) := by omega
              have q21id : IntKind.i64.wrap ((kp : Int) + 1) = (kp : Int) + 1 := by rw [IntKind.wrap_i64]; omega
              have q21ka : ((kp : Int)).toNat = kp := by omega
              have q21kb : 0 ≤ ((kp : Int)) := by omega
              have q21kc : ((kp : Int)) < (n : Int) := by omega
              have q21kd : IntKind.i64.wrap ((kp : Int)) = (kp : Int) := by rw [IntKind.wrap_i64]; omega
              obtain ⟨q21x, q21y, q211, q212, q213, q214, q215, q216, q217, q218, ⟨q21u, q219⟩, ⟨q21v, q2110⟩, ⟨q21w, q2111⟩, q21S⟩ := S2.out.swaps (kp + 1) (kp) (by omega) (by omega)
              have S3 := Lib.hid q21S
              clear q21S S2
              go_wp2_with fail
              go_big_region
              clear q211 q212 q213 q214 q215 q216 q217 q218 q219 q2110 q2111 q21ia q21ib q21ic q21id q21ka q21kb q21kc q21kd
              generalize ((((w2.setCell ⟨blk, off + (kp + 1) * 2, none⟩ (.int .i64 q21y.1)).setCell ⟨blk, off + (kp + 1) * 2 + 1, none⟩ (.int .i64 q21y.2)).setCell ⟨blk, off + kp * 2, none⟩ (.int .i64 q21x.1)).setCell ⟨blk, off + kp * 2 + 1, none⟩ (.int .i64 q21x.2)).drew = w3 at S3 ⊢
              have hrnd : Hid (partialIns ltE a b (5 - (s + 1)) (kp + 1) (fixUp ltE b (kp + 1) (fixDown ltE a (kp + 1) (swp dk (kp + 1) kp))) = partialIns ltE a b 5 (a + 1) d) := by
                show _ = _
                rw [← HO.out, pi_go ltE a b s i (kp + 1) dk hs HK.out (by omega) h50]; rfl
              clear HO HK HSc
              generalize swp dk (kp + 1) kp = d1 at hrnd S3
              go_upto_if 65 with fail
              go_cut [11] from 15 (fun _ wc => Hid (SW w0 blk off n (fixDown ltE a (kp + 1) d1) wc))
              case first =>
                by_cases h2 : 2 ≤ kp + 1 - a
                · have h2z : 2 ≤ (kp : Int) + 1 - (a : Int) := by omega
                  have hfd : Hid (fixDown ltE a (kp + 1) d1 = shiftDown ltE kp d1) := by show _ = _; unfold fixDown; rw [if_pos h2]; rfl
                  rw [show decide (2 ≤ (kp : Int) + 1 - (a : Int)) = true from decide_eq_true h2z]
                  go_wp2_with fail
                  go_loopg [11] kp (fun g3 vj wl => ∃ (j : Nat) (dj : Array Edge), vj = .int .i64 j ∧ j ≤ kp ∧ j ≤ g3 ∧ Hid (SW w0 blk off n dj wl) ∧ Hid (shiftDown ltE j dj = shiftDown ltE kp d1))
                  case atStart => exact ⟨kp, d1, by first | rfl | go_num | (congr 1; omega), Nat.le_refl _, Nat.le_refl _, S3, rfl⟩
                  case round =>
                    clear S3
                    obtain ⟨j, dj, rfl, hjk, hg3, S4, HD⟩ := hrel
                    by_cases hj1 : 1 ≤ j
                    · obtain ⟨jp, rfl⟩ : ∃ q, j = q + 1 := ⟨j - 1, by omega⟩
                      have hjz : (1 : Int) ≤ (jp : Int) + 1 := by omega
                      cases hL2 : ltE dj[jp + 1]! dj[jp]! with
                      | true =>
                        have q22ia : ((jp : Int) + 1).toNat = jp + 1 := by omega
                        have q22ib : 0 ≤ ((jp : Int) + 1) := by omega
                        have q22ic : ((jp : Int) + 1) < (n : Int) := by omega
                        have q22id : IntKind.i64.wrap ((jp : Int) + 1) = (jp : Int) + 1 := by rw [IntKind.wrap_i64]; omega
                        have q22ka : ((jp : Int)).toNat = jp := by omega
                        have q22kb : 0 ≤ ((jp : Int)) := by omega
                        have q22kc : ((jp : Int)) < (n : Int) := by omega
                        have q22kd : IntKind.i64.wrap ((jp : Int)) = (jp : Int) := by rw [IntKind.wrap_i64]; omega
                        obtain ⟨q22x, q22y, q221, q222, q223, q224, q225, q226⟩ := S4.out.ask (jp + 1) (jp) (by omega) (by omega) hL2
                        have q22H := Lib.hid q225
                        clear q225
                        go_wp2_with fail
                        go_quiet_grown ((go_at_call 48; exact q22H.out _ _))
                        have S5 := Lib.hid (S4.out.grown nq osq)
                        clear q221 q222 q223 q224 q22H S4 q22ia q22ib q22ic q22id q22ka q22kb q22kc q22kd
                        generalize grow (wr.drewN nq) osq = w5 at S5 ⊢
                        clear nq osq
                        go_wp2_with fail
                        have q23ia : ((jp : Int) + 1).toNat = jp + 1 := by omega
                        have q23ib : 0 ≤ ((jp : Int) + 1) := by omega
                        have q23ic : ((jp : Int) + 1) < (n : Int) := by omega
                        have q23id : IntKind.i64.wrap ((jp : Int) + 1) = (jp : Int) + 1 := by rw [IntKind.wrap_i64]; omega
                        have q23ka : ((jp : Int)).toNat = jp := by omega
                        have q23kb : 0 ≤ ((jp : Int)) := by omega
                        have q23kc : ((jp : Int)) < (n : Int) := by omega
                        have q23kd : IntKind.i64.wrap ((jp : Int)) = (jp : Int) := by rw [IntKind.wrap_i64]; omega
                        obtain ⟨q23x, q23y, q231, q232, q233, q234, q235, q236, q237, q238, ⟨q23u, q239⟩, ⟨q23v, q2310⟩, ⟨q23w, q2311⟩, q23S⟩ := S5.out.swaps (jp + 1) (jp) (by omega) (by omega)
                        have S6 := Lib.hid q23S
                        clear q23S S5
                        go_wp2_with fail
                        go_big_region
                        clear q231 q232 q233 q234 q235 q236 q237 q238 q239 q2310 q2311 q23ia q23ib q23ic q23id q23ka q23kb q23kc q23kd
                        generalize ((((w5.setCell ⟨blk, off + (jp + 1) * 2, none⟩ (.int .i64 q23y.1)).setCell ⟨blk, off + (jp + 1) * 2 + 1, none⟩ (.int .i64 q23y.2)).setCell ⟨blk, off + jp * 2, none⟩ (.int .i64 q23x.1)).setCell ⟨blk, off + jp * 2 + 1, none⟩ (.int .i64 q23x.2)).drew = w6 at S6 ⊢
                        all_goals go_wp2
                        go_roundg jp
                        case measure => omega
                        case rel => exact ⟨jp, swp dj (jp + 1) jp, by first | rfl | go_num | (congr 1; omega), by omega, Nat.le_refl _, S6, (show Hid _ from by rw [← HD.out, shiftDown_go ltE (jp + 1) dj hj1 hL2]; exact rfl)⟩
                      | false =>
                        have q24ia : ((jp : Int) + 1).toNat = jp + 1 := by omega
                        have q24ib : 0 ≤ ((jp : Int) + 1) := by omega
                        have q24ic : ((jp : Int) + 1) < (n : Int) := by omega
                        have q24id : IntKind.i64.wrap ((jp : Int) + 1) = (jp : Int) + 1 := by rw [IntKind.wrap_i64]; omega
                        have q24ka : ((jp : Int)).toNat = jp := by omega
                        have q24kb : 0 ≤ ((jp : Int)) := by omega
                        have q24kc : ((jp : Int)) < (n : Int) := by omega
                        have q24kd : IntKind.i64.wrap ((jp : Int)) = (jp : Int) := by rw [IntKind.wrap_i64]; omega
                        obtain ⟨q24x, q24y, q241, q242, q243, q244, q245, q246⟩ := S4.out.ask (jp + 1) (jp) (by omega) (by omega) hL2
                        have q24H := Lib.hid q245
                        clear q245
                        go_wp2_with fail
                        go_quiet_grown ((go_at_call 48; exact q24H.out _ _))
                        have S5 := Lib.hid (S4.out.grown nq osq)
                        clear q241 q242 q243 q244 q24H S4 q24ia q24ib q24ic q24id q24ka q24kb q24kc q24kd
                        generalize grow (wr.drewN nq) osq = w5 at S5 ⊢
                        clear nq osq
                        go_wp2
                        go_meet
                        have e : fixDown ltE a (kp + 1) d1 = dj := by rw [hfd.out, ← HD.out, shiftDown_stop ltE (jp + 1) dj (Or.inr hL2)]
                        rw [e]; exact S5
                    · obtain rfl : j = 0 := by omega
                      go_wp2
                      go_meet
                      have e : fixDown ltE a (kp + 1) d1 = dj := by rw [hfd.out, ← HD.out, shiftDown_stop ltE 0 dj (Or.inl rfl)]
                      rw [e]; exact S4
                · have h2z : ¬ 2 ≤ (kp : Int) + 1 - (a : Int) := by omega
                  go_wp2_with fail
                  go_meet
                  have e : fixDown ltE a (kp + 1) d1 = d1 := by unfold fixDown; rw [if_neg h2]
                  rw [e]; exact S3
              case rest =>
                clear S3
                have S4 := hcut
                clear hcut
                generalize fixDown ltE a (kp + 1) d1 = d2 at hrnd S4
                by_cases h2 : 2 ≤ b - (kp + 1)
                · have h2z : 2 ≤ (b : Int) - ((kp : Int) + 1) := by omega
                  have hfd : Hid (fixUp ltE b (kp + 1) d2 = shiftUp ltE b (kp + 2) d2) := by show _ = _; unfold fixUp; rw [if_pos h2]
                  go_wp2_with fail
                  go_loopg [12] (b - (kp + 2)) (fun g4 vj wl => ∃ (j : Nat) (dj : Array Edge), vj = .int .i64 j ∧ kp + 2 ≤ j ∧ j ≤ b ∧ b - j ≤ g4 ∧ Hid (SW w0 blk off n dj wl) ∧ Hid (shiftUp ltE b j dj = shiftUp ltE b (kp + 2) d2))
                  case atStart => exact ⟨kp + 2, d2, by first | rfl | go_num | (congr 1; omega), Nat.le_refl _, by omega, Nat.le_refl _, S4, rfl⟩
                  case round =>
                    clear S4
                    obtain ⟨j, dj, rfl, hjk, hjb, hg4, S5, HU⟩ := hrel
                    by_cases hj1 : j < b
                    · obtain ⟨jp, rfl⟩ : ∃ q, j = q + 1 := ⟨j - 1, by omega⟩
                      have hjz : (jp : Int) + 1 < (b : Int) := by omega
                      cases hL2 : ltE dj[jp + 1]! dj[jp]! with
                      | true =>
                        have q25ia : ((jp : Int) + 1).toNat = jp + 1 := by omega
                        have q25ib : 0 ≤ ((jp : Int) + 1) := by omega
                        have q25ic : ((jp : Int) + 1) < (n : Int) := by omega
                        have q25id : IntKind.i64.wrap ((jp : Int) + 1) = (jp : Int) + 1 := by rw [IntKind.wrap_i64]; omega
                        have q25ka : ((jp : Int)).toNat = jp := by omega
                        have q25kb : 0 ≤ ((jp : Int)) := by omega
                        have q25kc : ((jp : Int)) < (n : Int) := by omega
                        have q25kd : IntKind.i64.wrap ((jp : Int)) = (jp : Int) := by rw [IntKind.wrap_i64]; omega
                        obtain ⟨q25x, q25y, q251, q252, q253, q254, q255, q256⟩ := S5.out.ask (jp + 1) (jp) (by omega) (by omega) hL2
                        have q25H := Lib.hid q255
                        clear q255
                        go_wp2_with fail
                        go_quiet_grown ((go_at_call 48; exact q25H.out _ _))
                        have S6 := Lib.hid (S5.out.grown nq osq)
                        clear q251 q252 q253 q254 q25H S5 q25ia q25ib q25ic q25id q25ka q25kb q25kc q25kd
                        generalize grow (wr.drewN nq) osq = w6 at S6 ⊢
                        clear nq osq
                        go_wp2_with fail
                        have q26ia : ((jp : Int) + 1).toNat = jp + 1 := by omega
                        have q26ib : 0 ≤ ((jp : Int) + 1) := by omega
                        have q26ic : ((jp : Int) + 1) < (n : Int) := by omega
                        have q26id : IntKind.i64.wrap ((jp : Int) + 1) = (jp : Int) + 1 := by rw [IntKind.wrap_i64]; omega
                        have q26ka : ((jp : Int)).toNat = jp := by omega
                        have q26kb : 0 ≤ ((jp : Int)) := by omega
                        have q26kc : ((jp : Int)) < (n : Int) := by omega
                        have q26kd : IntKind.i64.wrap ((jp : Int)) = (jp : Int) := by rw [IntKind.wrap_i64]; omega
                        obtain ⟨q26x, q26y, q261, q262, q263, q264, q265, q266, q267, q268, ⟨q26u, q269⟩, ⟨q26v, q2610⟩, ⟨q26w, q2611⟩, q26S⟩ := S6.out.swaps (jp + 1) (jp) (by omega) (by omega)
                        have S7 := Lib.hid q26S
                        clear q26S S6
                        go_wp2_with fail
                        go_big_region
                        clear q261 q262 q263 q264 q265 q266 q267 q268 q269 q2610 q2611 q26ia q26ib q26ic q26id q26ka q26kb q26kc q26kd
                        generalize ((((w6.setCell ⟨blk, off + (jp + 1) * 2, none⟩ (.int .i64 q26y.1)).setCell ⟨blk, off + (jp + 1) * 2 + 1, none⟩ (.int .i64 q26y.2)).setCell ⟨blk, off + jp * 2, none⟩ (.int .i64 q26x.1)).setCell ⟨blk, off + jp * 2 + 1, none⟩ (.int .i64 q26x.2)).drew = w7 at S7 ⊢
                        all_goals go_wp2
                        go_roundg (b - (jp + 1 + 1))
                        case measure => omega
                        case rel => exact ⟨jp + 1 + 1, swp dj (jp + 1) jp, by first | rfl | go_num | (congr 1; omega), by omega, by omega, Nat.le_refl _, S7, (show Hid _ from by rw [← HU.out, shiftUp_go ltE b (jp + 1) dj hj1 hL2]; exact rfl)⟩
                      | false =>
                        have e : Hid (partialIns ltE a b (5 - (s + 1)) (kp + 1) dj = partialIns ltE a b 5 (a + 1) d) := by show _ = _; rw [← hrnd.out, hfd.out, ← HU.out, shiftUp_stop ltE b (jp + 1) dj (Or.inr hL2)]
                        have q27ia : ((jp : Int) + 1).toNat = jp + 1 := by omega
                        have q27ib : 0 ≤ ((jp : Int) + 1) := by omega
                        have q27ic : ((jp : Int) + 1) < (n : Int) := by omega
                        have q27id : IntKind.i64.wrap ((jp : Int) + 1) = (jp : Int) + 1 := by rw [IntKind.wrap_i64]; omega
                        have q27ka : ((jp : Int)).toNat = jp := by omega
                        have q27kb : 0 ≤ ((jp : Int)) := by omega
                        have q27kc : ((jp : Int)) < (n : Int) := by omega
                        have q27kd : IntKind.i64.wrap ((jp : Int)) = (jp : Int) := by rw [IntKind.wrap_i64]; omega
                        obtain ⟨q27x, q27y, q271, q272, q273, q274, q275, q276⟩ := S5.out.ask (jp + 1) (jp) (by omega) (by omega) hL2
                        have q27H := Lib.hid q275
                        clear q275
                        go_wp2_with fail
                        go_quiet_grown ((go_at_call 48; exact q27H.out _ _))
                        have S6 := Lib.hid (S5.out.grown nq osq)
                        clear q271 q272 q273 q274 q27H S5 q27ia q27ib q27ic q27id q27ka q27kb q27kc q27kd
                        generalize grow (wr.drewN nq) osq = w6 at S6 ⊢
                        clear nq osq
                        go_wp2
                        go_roundg (5 - (s + 1))
                        case measure => omega
                        case rel => exact ⟨kp + 1, s + 1, dj, by first | rfl | go_num | (congr 1; omega), by first | rfl | go_num | (congr 1; omega), by omega, Nat.le_refl _, by omega, by omega, S6, e⟩
                    · have hjz : ¬ (j : Int) < (b : Int) := by omega
                      have e : Hid (partialIns ltE a b (5 - (s + 1)) (kp + 1) dj = partialIns ltE a b 5 (a + 1) d) := by show _ = _; rw [← hrnd.out, hfd.out, ← HU.out, shiftUp_stop ltE b j dj (Or.inl hj1)]
                      go_wp2
                      go_roundg (5 - (s + 1))
                      case measure => omega
                      case rel => exact ⟨kp + 1, s + 1, dj, by first | rfl | go_num | (congr 1; omega), by first | rfl | go_num | (congr 1; omega), by omega, Nat.le_refl _, by omega, by omega, S5, e⟩
                · have h2z : ¬ 2 ≤ (b : Int) - ((kp : Int) + 1) := by omega
                  have e : Hid (partialIns ltE a b (5 - (s + 1)) (kp + 1) d2 = partialIns ltE a b 5 (a + 1) d) := by show _ = _; rw [← hrnd.out]; unfold fixUp; rw [if_neg h2]
                  go_wp2
                  go_roundg (5 - (s + 1))
                  case measure => omega
                  case rel => exact ⟨kp + 1, s + 1, d2, by first | rfl | go_num | (congr 1; omega), by first | rfl | go_num | (congr 1; omega), by omega, Nat.le_refl _, by omega, by omega, S4, e⟩
        · have hkz : ¬ (kp : Int) + 1 < (b : Int) := by omega
          have hkd : decide ((kp : Int) + 1 < (b : Int)) = false := decide_eq_false hkz
          have hke : ((kp : Int) + 1 == (b : Int)) = true := beq_iff_eq.2 (by omega)
          have S2 := Lib.hid S1.out.drew
          have hv : Hid (partialInsertionSort ltE d a b = (dk, true)) := by
            show _ = _
            unfold partialInsertionSort
            rw [← HO.out, pi_true ltE a b s i dk hs (by rw [← HSc.out, scanSorted_stop ltE dk b (kp + 1) (Or.inl hkb')]; omega)]
          clear S1 HO HSc
          go_wp2_with fail
          go_big_region
          generalize wr.drew = w2 at S2 ⊢
          go_wp2
          rw [hv.out]
          go_ret
          exact ⟨rfl, S2.out⟩
    · obtain rfl : s = 5 := by omega
      go_wp2
      have hv : partialInsertionSort ltE d a b = (dk, false) := by unfold partialInsertionSort; rw [← HO.out, pi_end]
      rw [hv]
      go_ret
      exact ⟨rfl, S1.out⟩

end Go.Proofs.Ytgmgofcclddkiaa
