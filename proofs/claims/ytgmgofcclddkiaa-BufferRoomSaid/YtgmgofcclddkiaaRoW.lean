/- The law BufferRoom walked: it answers true for every room and every list of acts. -/
import Derived.Test.YtgmgofcclddkiaaOps
import Derived.Deep.CutBlock
namespace Go.Proofs.Ytgmgofcclddkiaa
open Go.RowKit Go.Maps Go.WideShapes

theorem ivs_takeL {L : Things} {i : Int} (h : hasI L i = true) : (ivs (takeL L i)).length + 1 = (ivs L).length := by
  have e : ivs (takeL L i) = (ivs L).erase i := by
    refine rise_ext (ivs_rise _) ((ivs_rise L).sublist List.erase_sublist) (fun j => ?_)
    rw [mem_ivs, hasI_takeL, (ivs_nodup L).mem_erase_iff, mem_ivs]
    exact ⟨fun h => ⟨h.2, h.1⟩, fun h => ⟨h.2, h.1⟩⟩
  have hm : i ∈ ivs L := (mem_ivs L i).2 h
  rw [e, List.length_erase_of_mem hm]
  have := List.length_pos_of_mem hm
  omega
theorem room_sum (e : Nat) : ∀ (n : Nat) (L : Things), L.length = n → (∀ i, (texts L i).length ≤ e) → L.length ≤ (ivs L).length * e ∧ (ivs L).length ≤ L.length := by
  intro n
  induction n using Nat.strongRecOn with
  | _ n ih =>
    intro L hL hf
    cases L with
    | nil => simp [ivs]
    | cons q r =>
      have hi : hasI (q :: r) q.1 = true := (hasI_iff _ _).2 ⟨q.2, by simp⟩
      have h1 := len_takeL (q :: r) q.1
      have h2 := ivs_takeL hi
      have h3 := texts_pos hi
      have h4 := hf q.1
      obtain ⟨g1, g2⟩ := ih (takeL (q :: r) q.1).length (by omega) _ rfl (fun j => by
        by_cases hj : j = q.1
        · subst hj; rw [texts_takeL_same]; simp
        · rw [texts_takeL _ hj]; exact hf j)
      rw [← h2]
      constructor
      · rw [Nat.succ_mul]; omega
      · omega

/-- what Put answers is one of four -/
theorem putE_four (each room : Nat) (L : Things) (i : Int) (t : ByteArray) : putE each room L i t = 0 ∨ putE each room L i t = 1 ∨ putE each room L i t = 4 ∨ putE each room L i t = 11 := by
  unfold putE
  split
  · simp
  · split
    · simp
    · split <;> split <;> simp
theorem putE_has {each room : Nat} {L : Things} (hf : Fine each room L) {i : Int} {t : ByteArray} : hasT L i t = true ↔ putE each room L i t = 11 := by
  constructor
  · intro h
    have := (hf.pos _ ((hasT_iff L i t).1 h)).1
    unfold putE
    rw [if_neg (by omega), if_pos h]
  · intro h
    unfold putE at h
    split at h
    · omega
    · split at h
      · assumption
      · split at h <;> split at h <;> omega

set_option maxRecDepth 100000 in
set_option maxHeartbeats 8000000 in
theorem room_walk (w : World) (c : Int) (hcw : (Lit.int .u8 c).wf = true) (d : Int) (hdw : (Lit.int .u8 d).wf = true) (v : Value) (xs : List ActD) (hx : ActsAt w v xs) (hxs : ∀ x ∈ xs, x.ok) :
    Calls Try.prog 5 #[.int .u8 c, .int .u8 d, v] w fun e w' => e = .returned (.bool true) ∧ Below w.heap.size w w' := by
  have haw := Lib.hid (awake_any w)
  obtain ⟨hc0, hc1⟩ := u8b hcw
  obtain ⟨hd0, hd1⟩ := u8b hdw
  have hml := hx.1
  obtain ⟨a, cap, rfl, hcells⟩ := hx.cells
  rw [List.length_map] at hml
  have hml2 : xs.length ≤ 9223372036854775807 := by unfold maxLen at hml; omega
  have HC := Lib.hid hcells
  have HXS := Lib.hid hxs
  clear hcells hxs hcw hdw hml hx
  obtain ⟨ee, he⟩ : ∃ ee : Nat, (ee : Int) = c % 64 + 1 := ⟨(c % 64 + 1).toNat, by omega⟩
  obtain ⟨ss, hs⟩ : ∃ ss : Nat, (ss : Int) = d % 64 + 1 := ⟨(d % 64 + 1).toNat, by omega⟩
  have he1 : 1 ≤ ee := by omega
  have he2 : ee ≤ 64 := by omega
  have hs1 : 1 ≤ ss := by omega
  have hs2 : ss ≤ 64 := by omega
  have HE := Lib.hid he
  have HS := Lib.hid hs
  clear he hs
  go_enter Try.func5, Try.ntmps5
  go_wp2_with fail
  refine haw.out.mono ?_
  rintro e w1 ⟨rfl, hb⟩
  have HB1 := Lib.hid hb
  clear hb
  go_wp2_with fail
  rw [← HE.out, ← HS.out]
  clear hc0 hc1 hd0 hd1 HE HS
  refine (BufAt.new (B := w.heap.size) (w0 := w) HB1.out HB1.out.size [] (by simp) ee ss (by omega) (by omega) (by omega) (by omega)).mono ?_
  rintro e' w2 ⟨rfl, h, _, _⟩
  have H2 : Hid (BufAt w.heap.size w w2 (w1.heap.size + 1) ee ss [] 0 []) := by show BufAt _ _ _ _ _ _ _ _ _; simpa using h
  clear h
  go_wp2_with fail
  go_loopw [11] (fun ix wr => ∃ (k : Nat) (L : Things) (dr : Int), k ≤ xs.length ∧ k ≤ 100 ∧ ix = .int .i64 k ∧ L.length ≤ k ∧ 0 ≤ dr ∧ dr ≤ k ∧ BufAt w.heap.size w wr (w1.heap.size + 1) ee ss L dr []) (fun ix _ => xs.length - (intOf ix).toNat)
  case atStart => exact ⟨0, [], 0, by omega, by omega, rfl, by simp, by omega, by omega, H2.out⟩
  case round =>
    obtain ⟨k, L, dr, hk, hk100, rfl, hL, hd0, hd1, hbuf⟩ := hrel
    have HBUF := Lib.hid hbuf
    clear hbuf
    by_cases hlt : k < xs.length ∧ k < 100
    · obtain ⟨hlt1, hlt2⟩ := hlt
      obtain ⟨b, o, rfl, hcw⟩ := HC.out (by omega)
      obtain ⟨hbl, q0, q1, q2⟩ := hcw k xs[k] (by simp [hlt1])
      have hok := HXS.out xs[k] (List.getElem_mem _)
      obtain ⟨kd, i, t, hxk⟩ : ∃ kd i t, xs[k] = ⟨kd, i, t⟩ := ⟨_, _, _, rfl⟩
      rw [hxk] at q0 q1 q2 hok
      simp only [ActD.ok] at hok q0 q1 q2
      have hbel := HBUF.out.below
      have r0 := (hbel.cell (p := ⟨b, o + k * 3, none⟩) hbl).trans q0
      have r1 := (hbel.cell (p := ⟨b, o + k * 3 + 1, none⟩) hbl).trans q1
      have r2 := (hbel.cell (p := ⟨b, o + k * 3 + 2, none⟩) hbl).trans q2
      have htz : t.size ≤ 9223372036854775807 := by have := hok.2.2; unfold maxLen at this; omega
      have HOK := Lib.hid hok
      clear hcw q0 q1 q2 hok hxk hbel
      have HB0 := Lib.hid ((HBUF.out.alloc (Obj.cells #[.int .i64 kd, .int .i64 i, .string t] 32)).alloc (Obj.cells #[.int .i64 kd, .int .i64 i, .string t] 32))
      go_wp2_with fail
      refine (large_any kd i t htz).mono ?_
      rintro e' w3 ⟨rfl, hw3⟩
      have H3 : Hid (BufAt w.heap.size w w3 (w1.heap.size + 1) ee ss L dr [wr.heap.size]) := by show BufAt _ _ _ _ _ _ _ _ _; rw [hw3]; exact HB0.out.sub (by simp)
      have hlb : w3.heap[wr.heap.size]? = some (.cells #[.int .i64 kd, .int .i64 i, .string t] 32 (0, 0)) := by rw [hw3, Below.heap_alloc _ _ _ (by simp)]; exact (MapKept.heap_alloc wr _).1
      have HLB := Lib.hid hlb
      clear hw3 hlb
      by_cases hbigx : 200 < (t.size : Int)
      · go_wp2
        go_ret
        exact ⟨rfl, H3.out.below⟩
      · have hsz := Lib.hid H3.out.sizeC
        have hdc := Lib.hid H3.out.droppedC
        have l0 := cell_of HLB.out 0
        have l1 := cell_of HLB.out 1
        have l2 := cell_of HLB.out 2
        go_wp2_with fail
        refine hsz.out.mono ?_
        rintro e' w' ⟨rfl, rfl⟩
        go_wp2_with fail
        refine hdc.out.mono ?_
        rintro e' w' ⟨rfl, rfl⟩
        obtain ⟨ll, hll⟩ : ∃ ll, ll = L.length := ⟨_, rfl⟩
        rw [← hll] at hL ⊢
        have HLL := Lib.hid hll
        clear hll
        have hL64 : L.length < 4611686018427387904 := by rw [← HLL.out]; omega
        clear hsz hdc
        go_upto_block 2 with (fail)
        go_cut [] from 45 to 163 (fun w' => ∃ (L' : Things) (dr' : Int), L'.length ≤ k + 1 ∧ 0 ≤ dr' ∧ dr' ≤ k + 1 ∧ BufAt w.heap.size w w' (w1.heap.size + 1) ee ss L' dr' [wr.heap.size])
        case rest =>
          obtain ⟨L', dr', hl', hd0', hd1', hbuf'⟩ := hcut
          have HB4 := Lib.hid hbuf'
          have hbi := Lib.hid hbuf'.intervals
          clear hbuf' l0 l1 l2
          go_wp2_with fail
          refine hbi.out.mono ?_
          rintro e' w5 ⟨v5, rfl, hrow5, hbuf5, hsm5⟩
          obtain ⟨a5, c5, rfl⟩ := row_form hrow5
          have H5 : Hid (BufAt w.heap.size w w5 (w1.heap.size + 1) ee ss L' dr' []) := hbuf5.sub (by simp)
          have hfine := H5.out.fine
          obtain ⟨hs1', hs2'⟩ := room_sum ee _ L' rfl hfine.full
          have hmany := hfine.many
          have hsz5 := H5.out.sizeC
          obtain ⟨nn, hnn⟩ : ∃ nn, nn = (ivs L').length := ⟨_, rfl⟩
          obtain ⟨l5, hl5⟩ : ∃ l5, l5 = L'.length := ⟨_, rfl⟩
          rw [← hnn] at hs1' hs2' hmany ⊢
          rw [← hl5] at hs1' hs2' hl' hsz5
          have HSZ5 := Lib.hid hsz5
          have HNN := Lib.hid hnn
          have HL5 := Lib.hid hl5
          have hmul : nn * ee ≤ 64 * 64 := Nat.mul_le_mul (by omega) he2
          obtain ⟨pp, hpp⟩ : ∃ pp : Nat, pp = nn * ee := ⟨_, rfl⟩
          rw [← hpp] at hs1' hmul
          have hpi : (nn : Int) * (ee : Int) = (pp : Int) := by rw [hpp]; simp
          clear hfine hrow5 hbuf5 hsm5 hsz5 hnn hl5 hpp
          go_wp2_with fail
          refine HSZ5.out.mono ?_
          rintro e' w' ⟨rfl, rfl⟩
          go_wp2_with fail
          refine HSZ5.out.mono ?_
          rintro e' w' ⟨rfl, rfl⟩
          clear hpi
          go_wp2
          go_roundw
          case rel =>
            refine ⟨k + 1, L', dr', by omega, by omega, by go_num, by rw [← HL5.out]; omega, by omega, by omega, H5.out⟩
          case measure => simp [intOf]; omega
        case first =>
          by_cases hk0 : kd = 0
          · subst hk0
            have hfine := H3.out.fine
            have hhas : ¬ hasT L i t = true → hasT L i t = false := fun h => by simpa using h
            rcases putE_four ee ss L i t with h0 | h1 | h4 | h11
            · have hn : ¬ hasT L i t = true := fun h => by have := (putE_has hfine).1 h; omega
              have HP := Lib.hid (H3.out.put' i t HOK.out.2.1.1 HOK.out.2.1.2 HOK.out.2.2 (by omega) (by omega) hL64 (L' := L ++ [(i, t)]) (dr' := dr) h0 rfl rfl)
              clear h0 hhas hn hfine
              go_wp2_with fail
              refine HP.out.mono ?_
              rintro e' w4 ⟨rfl, hbuf4, hsm4⟩
              have H4 := Lib.hid hbuf4
              have hl4 := (hsm4.2 wr.heap.size (by simp)).trans HLB.out
              have m1 := cell_of hl4 1
              have m2 := cell_of hl4 2
              have hsz4 := hbuf4.sizeC
              have e4 : (L ++ [(i, t)]).length = ll + 1 := by rw [List.length_append, HLL.out]; rfl
              rw [e4] at hsz4
              have hsz4 : Calls Try.prog 26 #[.pointer (some ⟨w1.heap.size + 1, 0, none⟩)] w4 fun e w' => e = .returned (.int .i64 ((ll : Int) + 1)) ∧ w4 = w' := by simpa using hsz4
              have HSZ4 := Lib.hid hsz4
              have HDC4 := Lib.hid hbuf4.droppedC
              have hht : hasT (L ++ [(i, t)]) i t = true := (hasT_iff _ _ _).2 (by simp)
              have hhc := hbuf4.hasC i t HOK.out.2.1.1 HOK.out.2.1.2 HOK.out.2.2
              rw [hht] at hhc
              have HHC4 := Lib.hid hhc
              have z1 : (dr == dr + 1) = false := by rw [beq_eq_false_iff_ne]; omega
              clear hbuf4 hsm4 hl4 hsz4 hhc hht e4 l0 l1 l2
              go_wp2_with fail
              refine HSZ4.out.mono ?_
              rintro e' w' ⟨rfl, rfl⟩
              go_wp2_with fail
              refine HDC4.out.mono ?_
              rintro e' w' ⟨rfl, rfl⟩
              go_wp2_with fail
              refine HHC4.out.mono ?_
              rintro e' w' ⟨rfl, rfl⟩
              go_wp2
              go_meet
              case rel => exact ⟨L ++ [(i, t)], dr, by rw [List.length_append, ← HLL.out]; simp; omega, hd0, by omega, H4.out⟩
            · have hn : hasT L i t = false := hhas (fun h => by have := (putE_has hfine).1 h; omega)
              have HP := Lib.hid (H3.out.put' i t HOK.out.2.1.1 HOK.out.2.1.2 HOK.out.2.2 (by omega) (by omega) hL64 (L' := L) (dr' := dr) h1 rfl rfl)
              have HN := Lib.hid hn
              clear h1 hhas hn hfine
              go_wp2_with fail
              refine HP.out.mono ?_
              rintro e' w4 ⟨rfl, hbuf4, hsm4⟩
              have H4 := Lib.hid hbuf4
              have hl4 := (hsm4.2 wr.heap.size (by simp)).trans HLB.out
              have m1 := cell_of hl4 1
              have m2 := cell_of hl4 2
              have hsz4 := hbuf4.sizeC
              rw [← HLL.out] at hsz4
              have HSZ4 := Lib.hid hsz4
              have HDC4 := Lib.hid hbuf4.droppedC
              have hhc := hbuf4.hasC i t HOK.out.2.1.1 HOK.out.2.1.2 HOK.out.2.2
              rw [HN.out] at hhc
              have HHC4 := Lib.hid hhc
              have z1 : (dr == dr + 1) = false := by rw [beq_eq_false_iff_ne]; omega
              clear hbuf4 hsm4 hl4 hsz4 hhc l0 l1 l2
              go_wp2_with fail
              refine HSZ4.out.mono ?_
              rintro e' w' ⟨rfl, rfl⟩
              go_wp2_with fail
              refine HDC4.out.mono ?_
              rintro e' w' ⟨rfl, rfl⟩
              go_wp2_with fail
              refine HHC4.out.mono ?_
              rintro e' w' ⟨rfl, rfl⟩
              go_wp2
              go_meet
              case rel => exact ⟨L, dr, by rw [← HLL.out]; omega, by omega, by omega, H4.out⟩
            · have hn : hasT L i t = false := hhas (fun h => by have := (putE_has hfine).1 h; omega)
              have HP := Lib.hid (H3.out.put' i t HOK.out.2.1.1 HOK.out.2.1.2 HOK.out.2.2 (by omega) (by omega) hL64 (L' := L) (dr' := (dr + 1)) h4 rfl rfl)
              have HN := Lib.hid hn
              clear h4 hhas hn hfine
              go_wp2_with fail
              refine HP.out.mono ?_
              rintro e' w4 ⟨rfl, hbuf4, hsm4⟩
              have H4 := Lib.hid hbuf4
              have hl4 := (hsm4.2 wr.heap.size (by simp)).trans HLB.out
              have m1 := cell_of hl4 1
              have m2 := cell_of hl4 2
              have hsz4 := hbuf4.sizeC
              rw [← HLL.out] at hsz4
              have HSZ4 := Lib.hid hsz4
              have HDC4 := Lib.hid hbuf4.droppedC
              have hhc := hbuf4.hasC i t HOK.out.2.1.1 HOK.out.2.1.2 HOK.out.2.2
              rw [HN.out] at hhc
              have HHC4 := Lib.hid hhc
              clear hbuf4 hsm4 hl4 hsz4 hhc l0 l1 l2
              go_wp2_with fail
              refine HSZ4.out.mono ?_
              rintro e' w' ⟨rfl, rfl⟩
              go_wp2_with fail
              refine HDC4.out.mono ?_
              rintro e' w' ⟨rfl, rfl⟩
              go_wp2_with fail
              refine HHC4.out.mono ?_
              rintro e' w' ⟨rfl, rfl⟩
              go_wp2
              go_meet
              case rel => exact ⟨L, (dr + 1), by rw [← HLL.out]; omega, by omega, by omega, H4.out⟩
            · have hn : hasT L i t = true := (putE_has hfine).2 h11
              have HP := Lib.hid (H3.out.put' i t HOK.out.2.1.1 HOK.out.2.1.2 HOK.out.2.2 (by omega) (by omega) hL64 (L' := L) (dr' := dr) h11 rfl rfl)
              have HN := Lib.hid hn
              clear h11 hhas hn hfine
              go_wp2_with fail
              refine HP.out.mono ?_
              rintro e' w4 ⟨rfl, hbuf4, hsm4⟩
              have H4 := Lib.hid hbuf4
              have hl4 := (hsm4.2 wr.heap.size (by simp)).trans HLB.out
              have m1 := cell_of hl4 1
              have m2 := cell_of hl4 2
              have hsz4 := hbuf4.sizeC
              rw [← HLL.out] at hsz4
              have HSZ4 := Lib.hid hsz4
              have HDC4 := Lib.hid hbuf4.droppedC
              have hhc := hbuf4.hasC i t HOK.out.2.1.1 HOK.out.2.1.2 HOK.out.2.2
              rw [HN.out] at hhc
              have HHC4 := Lib.hid hhc
              have z1 : (dr == dr + 1) = false := by rw [beq_eq_false_iff_ne]; omega
              clear hbuf4 hsm4 hl4 hsz4 hhc l0 l1 l2
              go_wp2_with fail
              refine HSZ4.out.mono ?_
              rintro e' w' ⟨rfl, rfl⟩
              go_wp2_with fail
              refine HDC4.out.mono ?_
              rintro e' w' ⟨rfl, rfl⟩
              go_wp2_with fail
              refine HHC4.out.mono ?_
              rintro e' w' ⟨rfl, rfl⟩
              go_wp2
              go_meet
              case rel => exact ⟨L, dr, by rw [← HLL.out]; omega, by omega, by omega, H4.out⟩
          · by_cases hk1 : kd = 1
            · subst hk1
              have hlt := len_takeL L i
              have HT := Lib.hid (H3.out.take i HOK.out.2.1.1 HOK.out.2.1.2 hL64)
              obtain ⟨tt, htt⟩ : ∃ tt, tt = (texts L i).length := ⟨_, rfl⟩
              obtain ⟨l4, hl4⟩ : ∃ l4, l4 = (takeL L i).length := ⟨_, rfl⟩
              rw [← HLL.out, ← htt, ← hl4] at hlt
              have hq : ((ll : Int) - (tt : Int) != (l4 : Int)) = false := by rw [bne_eq_false_iff_eq]; omega
              have hq2 : (dr != dr) = false := by simp
              have HTT := Lib.hid htt
              have HL4 := Lib.hid hl4
              have HLT := Lib.hid hlt
              have htl : (tt : Int) ≤ ll := by omega
              clear htt hl4 hlt hk0
              go_wp2_with fail
              refine HT.out.mono ?_
              rintro e' w4 ⟨v4, rfl, hrow4, hbuf4, hsm4⟩
              obtain ⟨a4, c4, rfl⟩ := row_form hrow4
              have H4 : Hid (BufAt w.heap.size w w4 (w1.heap.size + 1) ee ss (takeL L i) dr [wr.heap.size]) := hbuf4.sub (fun j hj => List.mem_append.2 (.inr hj))
              have hsz4 := H4.out.sizeC
              rw [← HL4.out] at hsz4
              have HSZ4 := Lib.hid hsz4
              have HDC4 := Lib.hid H4.out.droppedC
              rw [← HTT.out]
              clear hrow4 hbuf4 hsm4 hsz4 l0 l1 l2
              go_wp2_with fail
              refine HSZ4.out.mono ?_
              rintro e' w' ⟨rfl, rfl⟩
              go_wp2_with fail
              refine HDC4.out.mono ?_
              rintro e' w' ⟨rfl, rfl⟩
              go_wp2
              go_meet
              case rel => exact ⟨takeL L i, dr, by have := HLT.out; rw [← HL4.out]; omega, by omega, by omega, H4.out⟩
            · by_cases hk2 : kd = 2
              · subst hk2
                have hdl : (dropL L i).length ≤ L.length := List.length_filter_le _ _
                have HT := Lib.hid (H3.out.drop i hL64)
                obtain ⟨l4, hl4⟩ : ∃ l4, l4 = (dropL L i).length := ⟨_, rfl⟩
                rw [← HLL.out, ← hl4] at hdl
                have hq : ((ll : Int) - ((ll : Int) - (l4 : Int)) != (l4 : Int)) = false := by rw [bne_eq_false_iff_eq]; omega
                have hq2 : (dr != dr) = false := by simp
                have HL4 := Lib.hid hl4
                have htl : 0 ≤ (ll : Int) - l4 := by omega
                clear hl4 hk0 hk1
                go_wp2_with fail
                refine HT.out.mono ?_
                rintro e' w4 ⟨rfl, hbuf4, hsm4⟩
                have H4 := Lib.hid hbuf4
                have hsz4 := hbuf4.sizeC
                rw [← HL4.out] at hsz4
                have HSZ4 := Lib.hid hsz4
                have HDC4 := Lib.hid hbuf4.droppedC
                rw [← HL4.out, ← HLL.out]
                clear hbuf4 hsm4 hsz4 l0 l1 l2
                go_wp2_with fail
                refine HSZ4.out.mono ?_
                rintro e' w' ⟨rfl, rfl⟩
                go_wp2_with fail
                refine HDC4.out.mono ?_
                rintro e' w' ⟨rfl, rfl⟩
                go_wp2
                go_meet
                case rel => exact ⟨dropL L i, dr, by rw [← HL4.out]; omega, by omega, by omega, H4.out⟩
              · have z0 : (kd == 0) = false := by simpa using hk0
                have z1 : (kd == 1) = false := by simpa using hk1
                have z2 : (kd == 2) = false := by simpa using hk2
                clear hk0 hk1 hk2
                go_wp2
                go_meet
                case rel => exact ⟨L, dr, by rw [← HLL.out]; omega, by omega, by omega, H3.out⟩
    · have hk2 : xs.length ≤ k ∨ (k < xs.length ∧ 100 ≤ k) := by omega
      clear hlt
      rcases hk2 with hk2 | ⟨hk2, hk3⟩
      all_goals
        go_wp2
        go_ret
        exact ⟨rfl, HBUF.out.below⟩
end Go.Proofs.Ytgmgofcclddkiaa
