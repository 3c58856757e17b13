/- cut.Agree: what most claims agree on, or why on nothing. -/
import Derived.Test.YtgmgofcclddkiaaCu3
namespace Go.Proofs.Ytgmgofcclddkiaa
open Go.RowKit Go.Maps Go.WideShapes

def retA (l h v e : Int) : Ending := .returned (.tuple #[.int .i64 l, .int .i64 h, .int .i64 v, .int .i64 e])
/-- Agree's answer -/
def AgreeRes (cs : List Clm) (e : Ending) : Prop :=
  (cs.any (fun c => !mayB c) = true ∧ e = retA 0 0 0 1) ∨ (cs.any (fun c => !mayB c) = false ∧ 64 < cs.length ∧ e = retA 0 0 0 4) ∨
    (cs.any (fun c => !mayB c) = false ∧ cs.length ≤ 64 ∧ ∃ l h v, AgreeIs (lastOf cs) l h v ∧ ((2 * v ≤ (lastOf cs).length ∧ e = retA 0 0 0 10) ∨ ((lastOf cs).length < 2 * v ∧ e = retA l h v 0)))
def AgreePost (w : World) (cs : List Clm) (e : Ending) (w' : World) : Prop := AgreeRes cs e ∧ Below w.heap.size w w'

theorem total_small {E : List (Int × Int)} (hE : ∀ x ∈ E, -128 ≤ x.2 ∧ x.2 ≤ 128) : ∀ k, k ≤ E.length → -(128 * (k : Int)) ≤ total E k ∧ total E k ≤ 128 * (k : Int)
  | 0, _ => by simp [total_zero]
  | k + 1, hk => by
    have := total_small hE k (by omega)
    have hx := hE E[k] (List.getElem_mem (by omega))
    rw [total_succ (by omega)]
    push_cast
    omega

theorem votes_pos {L : List Clm} {p : Int} (h : 0 < votes L p) : ∃ c ∈ L, c.2.1 ≤ p ∧ p ≤ c.2.2 := by
  unfold votes at h
  have : 0 < L.countP (hasB p) := by omega
  obtain ⟨c, hc, hp⟩ := List.countP_pos_iff.1 this
  exact ⟨c, hc, (hasB_iff p c).1 hp⟩

/-- the sweep, in the loop's slots -/
def Swp (w2 : World) (L : List Clm) (E : List (Int × Int)) (sl sh sv sn so ix : Value) (wr : World) : Prop :=
  ∃ (k : Nat) (low high v : Int) (opn : Bool), k ≤ E.length ∧ ix = .int .i64 k ∧ sl = .int .i64 low ∧ sh = .int .i64 high ∧ sv = .int .i64 v ∧ sn = .int .i64 (total E k) ∧ so = .bool opn ∧ Sweep L E k low high v opn ∧ Below w2.heap.size w2 wr

set_option maxRecDepth 100000 in
set_option maxHeartbeats 8000000 in
theorem agree_any (w : World) (v : Value) (cs : List Clm) (hc : ClmsAt w v cs) (hok : ∀ c ∈ cs, okC c) : Calls Try.prog 31 #[v] w (AgreePost w cs) := by
  have hml := hc.1
  rw [List.length_map] at hml
  obtain ⟨a, cap, rfl, _⟩ := hc.cells
  have hml2 : cs.length ≤ 9223372036854775807 := by unfold maxLen at hml; omega
  have hct := Lib.hid (contains_any w _ cs hc)
  have HC := Lib.hid hc
  have HOK := Lib.hid hok
  clear hml hc hok
  cases hany : cs.any (fun c => !mayB c) with
  | true =>
    rw [hany] at hct
    have HA := Lib.hid hany
    clear hany
    go_enter Try.func31, Try.ntmps31
    go_wp2_with fail
    refine hct.out.mono ?_
    rintro e w1 ⟨rfl, hb⟩
    have HB := Lib.hid hb
    clear hb
    go_wp2_with fail
    refine bodyPost_ret (v := .tuple #[.int .i64 0, .int .i64 0, .int .i64 0, .int .i64 1]) (by simp [results, Try.results31, go_sem]) rfl ⟨.inl ⟨HA.out, rfl⟩, HB.out⟩
  | false =>
    rw [hany] at hct
    have HA := Lib.hid hany
    have hmay : ∀ c ∈ cs, mayB c = true := fun c hc => by
      have := List.any_eq_false.1 hany c hc
      simpa using this
    have HMAY := Lib.hid hmay
    clear hany hmay
    by_cases hlen : 64 < cs.length
    · have hlz : (64 : Int) < (cs.length : Int) := by omega
      go_enter Try.func31, Try.ntmps31
      go_wp2_with fail
      refine hct.out.mono ?_
      rintro e w1 ⟨rfl, hb⟩
      have HB := Lib.hid hb
      clear hb
      go_wp2_with fail
      refine bodyPost_ret (v := .tuple #[.int .i64 0, .int .i64 0, .int .i64 0, .int .i64 4]) (by simp [results, Try.results31, go_sem]) rfl ⟨.inr (.inl ⟨HA.out, hlen, rfl⟩), HB.out⟩
    · have hlz : ¬ (64 : Int) < (cs.length : Int) := by omega
      have hle : cs.length ≤ 64 := by omega
      have hL := length_lastOf cs
      have HND := Lib.hid (lastOf_nodup cs)
      have hfit : ∀ c ∈ lastOf cs, fitC c := fun c hc => by
        have := (mayB_iff c).1 (HMAY.out c (mem_lastOf hc))
        exact ⟨this.2.1, this.2.2⟩
      have HFIT := Lib.hid hfit
      obtain ⟨L, hLe⟩ : ∃ L, L = lastOf cs := ⟨_, rfl⟩
      have HLE := Lib.hid hLe
      rw [← hLe] at hL HND HFIT
      clear hfit hLe hlen
      go_enter Try.func31, Try.ntmps31
      go_wp2_with fail
      refine hct.out.mono ?_
      rintro e w1 ⟨rfl, hb⟩
      have HB := Lib.hid hb
      clear hb
      go_wp2_with fail
      refine (last_any w1 _ cs (HC.out.keep HB.out) hle HOK.out).mono ?_
      rintro e w2 ⟨b, rfl, hbb, hm, hb2⟩
      rw [← HLE.out] at hm
      have HM := Lib.hid hm
      have HB2 := Lib.hid (HB.out.trans (hb2.mono HB.out.size))
      clear hm hb2 hbb HC hct HB
      go_wp2_with fail
      refine (edges_any w2 b L HM.out HND.out (by omega) HFIT.out).mono ?_
      rintro e w3 ⟨ve, E, rfl, hrow, hrise, hsum, hsm, hEl, hb3⟩
      have hz2 := HB2.out.size
      have HM3 := Lib.hid (HM.out.block (hb3.block b HM.out.lt))
      have HB3 := Lib.hid (HB2.out.trans (hb3.mono hz2))
      obtain ⟨ae, ce, rfl⟩ := row_form hrow
      have HR := Lib.hid hrow
      have HRI := Lib.hid hrise
      have HSU := Lib.hid hsum
      have HSM := Lib.hid hsm
      clear hrow hrise hsum hsm hb3 HM HB2
      go_wp2_with fail
      go_loopw [2, 3, 4, 7, 8, 23] (fun sl sh sv sn so ix wr => Swp w3 L E sl sh sv sn so ix wr) (fun _ _ _ _ _ ix _ => E.length - (RowKit.intOf ix).toNat)
      case atStart => exact ⟨0, 0, 0, 0, false, Nat.zero_le _, rfl, rfl, rfl, rfl, rfl, rfl, Sweep.start HRI.out HSU.out, Below.refl _ _⟩
      case round =>
        obtain ⟨k, low, high, vv, opn, hk, rfl, rfl, rfl, rfl, rfl, rfl, hsw, hbl⟩ := hrel
        have HSW := Lib.hid hsw
        have HBL := Lib.hid hbl
        have hv0 := hsw.nonneg
        have hvl : vv ≤ 64 := by
          rcases Int.lt_or_le 0 vv with h0 | h0
          · have := (hsw.begins h0).2.1; have := votes_le L low; omega
          · omega
        clear hsw hbl
        by_cases hlt : k < E.length
        · obtain ⟨g, gc, hgv, hgb, hgs, hcl⟩ := edge_cells HR.out rfl (by omega)
          cases hgv
          obtain ⟨c0, c1, _⟩ := hcl k E[k] (List.getElem?_eq_getElem hlt)
          rw [← HBL.out.cell (p := ⟨g, _, none⟩) hgs] at c0 c1
          have ht0 := total_small HSM.out k hk
          have hx2 := HSM.out E[k] (List.getElem_mem hlt)
          have htk := total_succ hlt
          obtain ⟨x1, hx1e⟩ : ∃ x1, x1 = E[k].1 := ⟨_, rfl⟩
          obtain ⟨x2, hx2e⟩ : ∃ x2, x2 = E[k].2 := ⟨_, rfl⟩
          obtain ⟨t, hte⟩ : ∃ t, t = total E k := ⟨_, rfl⟩
          rw [← hx1e] at c0
          rw [← hx2e] at c1 hx2 htk
          rw [← hte] at ht0 htk ⊢
          have HX1 := Lib.hid hx1e
          have HX2 := Lib.hid hx2e
          have HT := Lib.hid hte
          have HTK := Lib.hid htk
          have hwz := HBL.out.size
          obtain ⟨ht1, ht2⟩ := ht0
          obtain ⟨hx3, hx4⟩ := hx2
          have ht3 : -16384 ≤ t := by omega
          have ht4 : t ≤ 16384 := by omega
          have HBA := Lib.hid (HBL.out.alloc HBL.out.size (.cells #[.int .i64 x1, .int .i64 x2] 92))
          clear hcl hx1e hx2e hte htk ht1 ht2
          by_cases hx0 : x2 = 0
          · have hs := Lib.hid (HSW.out.stay HRI.out HSU.out hlt (HX2.out.symm.trans hx0))
            have e1 : (x2 == 0) = true := by simpa using hx0
            have HX0 := Lib.hid hx0
            clear hx0
            go_wp2_with fail
            go_roundw
            case rel => exact ⟨k + 1, low, high, vv, opn, by omega, by go_num, rfl, rfl, rfl, by rw [HTK.out], rfl, hs.out, HBA.out⟩
            case measure => simp [RowKit.intOf]; omega
          · have e1 : (x2 == 0) = false := by simpa using hx0
            by_cases hgt : vv < t + x2
            · have hs := HSW.out.raise HRI.out HSU.out hlt (by rw [HTK.out]; exact hgt)
              rw [← HX1.out, HTK.out] at hs
              have HS := Lib.hid hs
              clear hs hx0
              go_wp2_with fail
              go_roundw
              case rel => exact ⟨k + 1, x1, high, t + x2, true, by omega, by go_num, rfl, rfl, rfl, by rw [HTK.out], rfl, HS.out, HBA.out⟩
              case measure => simp [RowKit.intOf]; omega
            · cases opn with
              | true =>
                have hs := HSW.out.close HRI.out HSU.out hlt (by rw [← HX2.out]; exact hx0) (by rw [HTK.out]; exact hgt)
                rw [← HX1.out] at hs
                have HS := Lib.hid hs
                have hv1 : 0 < vv := by
                  rcases Int.lt_or_le 0 vv with h0 | h0
                  · exact h0
                  · have := HSW.out.none_ (by omega); cases this
                have hxl : -1152921504606846976 < x1 := by
                  obtain ⟨q1, q2, _⟩ := HSW.out.begins hv1
                  have hlx := q1 E[k] (List.getElem?_eq_getElem hlt)
                  obtain ⟨c, hcL, hcl, _⟩ := votes_pos (by rw [q2]; exact hv1)
                  have := (HFIT.out c hcL).2.1
                  rw [← HX1.out] at hlx
                  omega
                have hxh : x1 ≤ 1152921504606846977 := by
                  obtain ⟨q1, q2, _⟩ := HSW.out.begins hv1
                  have hlx := q1 E[k] (List.getElem?_eq_getElem hlt)
                  have := HSW.out.opened rfl (E[k].1 - 1) (seen_ahead hlt) (by omega)
                  obtain ⟨c, hcL, _, hch⟩ := votes_pos (p := E[k].1 - 1) (by rw [this]; exact hv1)
                  have := (HFIT.out c hcL).2.2
                  rw [← HX1.out] at hch
                  omega
                clear hs hx0 hv1
                go_wp2_with fail
                go_roundw
                case rel => exact ⟨k + 1, low, x1 - 1, vv, false, by omega, by go_num, rfl, rfl, rfl, by rw [HTK.out], rfl, HS.out, HBA.out⟩
                case measure => simp [RowKit.intOf]; omega
              | false =>
                have hs := Lib.hid (HSW.out.pass HRI.out HSU.out hlt (by rw [HTK.out]; exact hgt))
                clear hx0
                go_wp2_with fail
                go_roundw
                case rel => exact ⟨k + 1, low, high, vv, false, by omega, by go_num, rfl, rfl, rfl, by rw [HTK.out], rfl, hs.out, HBA.out⟩
                case measure => simp [RowKit.intOf]; omega
        · obtain rfl : k = E.length := by omega
          have hag := HSW.out.done
          have HAG := Lib.hid hag
          have HM4 := Lib.hid (HM3.out.block (HBL.out.block b HM3.out.lt))
          have HB4 := Lib.hid (HB3.out.trans (HBL.out.mono HB3.out.size))
          clear hag HSW HM3 HB3
          have hnd : ((L.map (·.1)).map (Lit.int .i64 ·)).Nodup := List.pairwise_map.2 (HND.out.imp (fun h e => h (by simpa using e)))
          have hks : ∀ l, l ∈ (L.map (·.1)).map (Lit.int .i64 ·) ↔ (gOf L l).isSome = true := fun l => by
            rw [gOf_some l, List.mem_map]
            constructor
            · rintro ⟨x, hx, rfl⟩; exact ⟨x, hx, rfl⟩
            · rintro ⟨x, hx, rfl⟩; exact ⟨x, hx, rfl⟩
          have hkl : ((L.map (·.1)).map (Lit.int .i64 ·)).length = L.length := by simp
          have HND2 := Lib.hid hnd
          have HKS := Lib.hid hks
          obtain ⟨nl, hnl⟩ : ∃ nl, nl = ((L.map (·.1)).map (Lit.int .i64 ·)).length := ⟨_, rfl⟩
          rw [← hnl] at hkl
          have HNL := Lib.hid hnl
          have HKL := Lib.hid hkl
          have hnl64 : nl ≤ 64 := by omega
          clear hnd hks hnl hkl
          by_cases h2 : 2 * vv ≤ (nl : Int)
          · have hres : AgreePost w cs (retA 0 0 0 10) wr := ⟨.inr (.inr ⟨HA.out, hle, low, high, vv, by rw [← HLE.out]; exact HAG.out, .inl ⟨by rw [← HLE.out, ← HKL.out]; exact h2, rfl⟩⟩), HB4.out⟩
            have HRES := Lib.hid hres
            clear hres
            go_wp2_with (with_reducible refine wpList_mlen _ rfl (.tmp 50) 87 rfl keyed3 Try.underlying87 rfl HM4.out HND2.out HKS.out ?_; rw [← HNL.out])
            refine bodyPost_ret (v := .tuple #[.int .i64 0, .int .i64 0, .int .i64 0, .int .i64 10]) (by simp [results, Try.results31, go_sem]) rfl HRES.out
          · have hres : AgreePost w cs (retA low high vv 0) wr := ⟨.inr (.inr ⟨HA.out, hle, low, high, vv, by rw [← HLE.out]; exact HAG.out, .inr ⟨by rw [← HLE.out, ← HKL.out]; omega, rfl⟩⟩), HB4.out⟩
            have HRES := Lib.hid hres
            clear hres
            go_wp2_with (with_reducible refine wpList_mlen _ rfl (.tmp 50) 87 rfl keyed3 Try.underlying87 rfl HM4.out HND2.out HKS.out ?_; rw [← HNL.out])
            refine bodyPost_ret (v := .tuple #[.int .i64 low, .int .i64 high, .int .i64 vv, .int .i64 0]) (by simp [results, Try.results31, go_sem]) rfl HRES.out
end Go.Proofs.Ytgmgofcclddkiaa
