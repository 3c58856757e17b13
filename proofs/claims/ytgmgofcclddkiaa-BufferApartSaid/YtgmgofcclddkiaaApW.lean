/- The law BufferApart walked: it answers true for every list of texts and of marks. -/
import Derived.Test.YtgmgofcclddkiaaOpn
namespace Go.Proofs.Ytgmgofcclddkiaa
open Go.RowKit Go.Maps Go.WideShapes

/-- only the intervals 3 and 7 -/
def Only (L : Things) : Prop := ∀ q ∈ L, q.1 = 3 ∨ q.1 = 7
theorem Only.few {L : Things} (h : Only L) {j : Int} (hj : j = 3 ∨ j = 7) (hn : ¬ hasI L j = true) : (ivs L).length < 2 := by
  have hs : ∀ x ∈ ivs L, x ≠ j := fun x hx e => hn (by subst e; exact (mem_ivs L x).1 hx)
  have h37 : ∀ x ∈ ivs L, x = 3 ∨ x = 7 := fun x hx => by
    obtain ⟨t, ht⟩ := (hasI_iff L x).1 ((mem_ivs L x).1 hx)
    exact h _ ht
  have hr := ivs_rise L
  match hv : ivs L with
  | [] => simp
  | [a] => simp
  | a :: b :: r =>
    rw [hv] at hs h37 hr
    have h1 := h37 a (by simp)
    have h2 := h37 b (by simp)
    have h3 := hs a (by simp)
    have h4 := hs b (by simp)
    have h5 := (List.pairwise_cons.1 hr).1 b (by simp)
    omega
theorem apart_put {L : Things} (h : Only L) (hl : L.length < 64) {j : Int} (hj : j = 3 ∨ j = 7) (t : ByteArray) : putE 64 2 L j t = if hasT L j t = true then 11 else 0 := by
  have hlen := len_takeL L j
  unfold putE
  rw [if_neg (by omega)]
  split
  · rfl
  · split
    · rw [if_pos (by omega)]
    · rename_i hn
      rw [if_pos (h.few hj hn)]
theorem Only.snoc {L : Things} (h : Only L) {j : Int} (hj : j = 3 ∨ j = 7) (t : ByteArray) : Only (L ++ [(j, t)]) := fun q hq => by
  rcases List.mem_append.1 hq with hq | hq
  · exact h q hq
  · simp at hq; subst hq; exact hj
theorem Only.take7 {L : Things} (h : Only L) : takeL (takeL L 3) 7 = [] := by
  unfold takeL
  rw [List.filter_filter, List.filter_eq_nil_iff]
  intro q hq
  rcases h q hq with e | e <;> simp [e]
theorem Only.drop7 {L : Things} (h : Only L) : dropL (takeL L 3) 7 = takeL L 3 := by
  unfold dropL takeL
  rw [List.filter_filter]
  refine List.filter_congr (fun q hq => ?_)
  rcases h q hq with e | e <;> simp [e]
theorem Only.len7 {L : Things} (h : Only L) : (takeL L 3).length = (texts L 7).length := by
  have := len_takeL (takeL L 3) 7
  rw [h.take7, texts_takeL L (by omega)] at this
  simpa using this.symm

/-- what the loop carries -/
structure Parting (B : Nat) (w0 : World) (p : Nat) (k : Nat) (L : Things) (v : Value) (wr : World) : Prop where
  buf : BufAt B w0 wr p 64 2 L 0 (blockOf v ++ [])
  row : wr.ownsRow B 9 1 v (texts L 7).length ((texts L 7).map Value.string)
  len : L.length ≤ k
  only : Only L

theorem texts_le (L : Things) (i : Int) : (texts L i).length ≤ L.length := by have := len_takeL L i; omega

set_option maxRecDepth 100000 in
set_option maxHeartbeats 4000000 in
theorem apart_walk (w : World) (u : Value) (xs : List ByteArray) (hx : CellsAt w u (xs.map Value.string)) (hxs : ∀ s ∈ xs, s.size ≤ maxLen) (v : Value) (ys : List Bool) (hy : CellsAt w v (ys.map Value.bool)) :
    Calls Try.prog 7 #[u, v] w fun e w' => e = .returned (.bool true) ∧ Below w.heap.size w w' := by
  have haw := Lib.hid (awake_any w)
  obtain ⟨hml, a, cap, rfl, hcells⟩ := hx
  obtain ⟨hml', a', cap', rfl, hcells'⟩ := hy
  simp only [List.length_map] at hml hcells hml' hcells' ⊢
  have hml2 : xs.length ≤ 9223372036854775807 := by unfold maxLen at hml; omega
  have hml3 : ys.length ≤ 9223372036854775807 := by unfold maxLen at hml'; omega
  have HC := Lib.hid hcells
  have HC' := Lib.hid hcells'
  have HXS := Lib.hid hxs
  clear hcells hcells' hxs hml hml'
  go_enter Try.func7, Try.ntmps7
  go_wp2_with fail
  refine haw.out.mono ?_
  rintro e w1 ⟨rfl, hb⟩
  have HB1 := Lib.hid hb
  clear hb
  go_wp2_with fail
  refine (BufAt.new (B := w.heap.size) (w0 := w) HB1.out HB1.out.size [] (by simp) 64 2 (by decide) (by decide) (by decide) (by decide)).mono ?_
  rintro e' w2 ⟨rfl, h, _, _⟩
  have H2 : Hid (BufAt w.heap.size w w2 (w1.heap.size + 1) 64 2 [] 0 []) := h
  clear h
  by_cases hbig : 60 < xs.length
  · go_wp2
    go_ret
    exact ⟨rfl, H2.out.below⟩
  · obtain ⟨i0, hi, hz0, hz1, hz2⟩ := info_parts infoStr
    go_wp2_with fail
    go_loopw [7, 31] (fun v ix wr => ∃ (k : Nat) (L : Things), k ≤ xs.length ∧ ix = .int .i64 k ∧ Parting w.heap.size w (w1.heap.size + 1) k L v wr) (fun _ ix _ => xs.length - (intOf ix).toNat)
    case atStart =>
      have h2 := H2.out.alloc (Obj.cells #[] 9)
      refine ⟨0, [], Nat.zero_le _, rfl, ⟨?_, ?_, Nat.zero_le _, fun q hq => by simp at hq⟩⟩
      · simpa [blockOf, Value.ownBlock] using h2
      · have := World.ownsRow_made (base := w.heap.size) (size := 1) (e := 9) w2 #[] 0 H2.out.size (Nat.zero_le _) rfl
        simpa [texts] using this
    case round =>
      obtain ⟨k, L, hk, rfl, R⟩ := hrel
      have HRI := Lib.hid R
      have htle := texts_le L 7
      have hLk := R.len
      obtain ⟨tl, htl⟩ : ∃ tl, tl = (texts L 7).length := ⟨_, rfl⟩
      have hrow0 := R.row
      rw [← htl] at hrow0 htle
      obtain ⟨av, cv, hv⟩ := row_form hrow0
      subst hv
      have HROW := Lib.hid hrow0
      have HTL := Lib.hid htl
      clear R hrow0 htl
      by_cases hlt : k < xs.length
      · obtain ⟨b, o, rfl, hbl, hcw⟩ := HC.out (by omega)
        have hck := hcw k hlt
        obtain ⟨x, hx⟩ : ∃ x, x = xs[k] := ⟨_, rfl⟩
        have hck' : w.cell? ⟨b, o + k, none⟩ = some (.string x) := by rw [hck, hx]; simp [hlt]
        have hxm : x.size ≤ maxLen := HXS.out x (by rw [hx]; exact List.getElem_mem _)
        have hxz : x.size ≤ 9223372036854775807 := by unfold maxLen at hxm; omega
        have hcr : wr.cell? ⟨b, o + k, none⟩ = some (.string x) := (HRI.out.buf.below.cell (p := ⟨b, o + k, none⟩) hbl).trans hck'
        have HXM := Lib.hid hxm
        clear hck hck' hcw hx hxm
        by_cases hbigx : 200 < (x.size : Int)
        · go_wp2
          go_ret
          exact ⟨rfl, HRI.out.buf.below⟩
        · have hx200 : x.size ≤ 200 := by omega
          have hL64 : L.length < 64 := by omega
          have hP : ∀ j, j = 3 ∨ j = 7 → ∃ (ev : Int) (L' : Things), (ev = 0 ∧ L' = L ++ [(j, x)] ∨ ev = 11 ∧ L' = L) ∧ Calls Try.prog 17 #[.pointer (some ⟨w1.heap.size + 1, 0, none⟩), .int .i64 j, .string x] wr fun e w' => e = .returned (.int .i64 ev) ∧
              BufAt w.heap.size w w' (w1.heap.size + 1) 64 2 L' 0 (blockOf (Value.slice av tl cv) ++ []) ∧ Same (blockOf (Value.slice av tl cv) ++ []) wr w' := by
            intro j hj
            have hput := apart_put HRI.out.only hL64 hj x
            by_cases hT : hasT L j x = true
            · rw [if_pos hT] at hput
              exact ⟨11, L, .inr ⟨rfl, rfl⟩, HRI.out.buf.put' j x (by omega) (by omega) HXM.out (by decide) (by decide) (by omega) hput rfl rfl⟩
            · rw [if_neg hT] at hput
              exact ⟨0, L ++ [(j, x)], .inl ⟨rfl, rfl⟩, HRI.out.buf.put' j x (by omega) (by omega) HXM.out (by decide) (by decide) (by omega) hput rfl rfl⟩
          by_cases h7 : k < ys.length ∧ ys[k]? = some true
          · obtain ⟨h7a, h7b⟩ := h7
            obtain ⟨b2, o2, rfl, hbl2, hcw2⟩ := HC'.out (by omega)
            have hcy : wr.cell? ⟨b2, o2 + k, none⟩ = some (.bool true) := by
              rw [HRI.out.buf.below.cell (p := ⟨b2, o2 + k, none⟩) hbl2, hcw2 k h7a, List.getElem?_map, h7b]; rfl
            obtain ⟨ev, L', hev, hput⟩ := hP 7 (.inr rfl)
            have HP := Lib.hid hput
            clear hcw2 h7b hP hput
            have hmx2 : tl + 1 ≤ maxLen := by unfold maxLen; omega
            rcases hev with ⟨rfl, hL'⟩ | ⟨rfl, hL'⟩
            · have HL' := Lib.hid hL'
              clear hL'
              go_wp2_with fail
              refine HP.out.mono ?_
              rintro e' w3 ⟨rfl, hbuf3, hsm⟩
              have H3 := Lib.hid hbuf3
              have hrow3 := Lib.hid (row_same HROW.out hsm (fun j hj => List.mem_append.2 (.inl hj)))
              have hz3 := hbuf3.size
              clear hbuf3 hsm
              go_wp2_with (at_builtin; refine wpList_append_own_at _ rfl _ _ 36 rfl w.heap.size 9 i0 (.string ByteArray.empty) 1 16 Try.underlying36 hi hz0 hz1 hz2 rfl (by decide) _ _ _ rfl (hrow3.out.alloc _) ⟨w3.heap.size, 0, none⟩ 1 1 [.string x] rfl rfl (cell_one_new _ _ _) (fun u hu => by simp at hu; subst hu; rfl) hmx2 (by omega) (by simp; omega) ?_; intro v' w5 hown' hgrow _ hloc; have HOWN := Lib.hid hown'; have HG := Lib.hid hgrow; have HL := Lib.hid hloc; clear hown' hgrow hloc)
              go_roundw
              case rel =>
                have e7 : texts L' 7 = texts L 7 ++ [x] := by rw [HL'.out, texts_snoc, if_pos rfl]
                have hlen7 : (texts L' 7).length = tl + 1 := by rw [e7, HTL.out]; simp
                have hrow5 : w5.ownsRow w.heap.size 9 1 v' (texts L' 7).length ((texts L' 7).map Value.string) := by rw [hlen7, e7, List.map_append]; exact HOWN.out
                have hb3a : BufAt w.heap.size w (w3.alloc (Obj.cells #[Value.string x] 9)) (w1.heap.size + 1) 64 2 L' 0 (blockOf (Value.slice av tl cv) ++ []) := (H3.out.alloc _).sub (fun j hj => List.mem_cons_of_mem _ hj)
                have hb5 := hb3a.appended (fun j hj => (row_lt hrow3.out j hj).1) HG.out HL.out (fun k hk => (hrow5.lt k hk).2)
                exact ⟨k + 1, L', by omega, by go_num, ⟨hb5, hrow5, by rw [HL'.out]; simp; omega, by rw [HL'.out]; exact HRI.out.only.snoc (.inr rfl) x⟩⟩
              case measure => simp [intOf]; omega
            · have HL' := Lib.hid hL'
              clear hL'
              go_wp2_with fail
              refine HP.out.mono ?_
              rintro e' w3 ⟨rfl, hbuf3, hsm⟩
              have H3 := Lib.hid hbuf3
              have hrow3 := Lib.hid (row_same HROW.out hsm (fun j hj => List.mem_append.2 (.inl hj)))
              clear hbuf3 hsm
              go_wp2
              go_roundw
              case rel =>
                have hrow5 : w3.ownsRow w.heap.size 9 1 (Value.slice av tl cv) (texts L' 7).length ((texts L' 7).map Value.string) := by rw [HL'.out, ← HTL.out]; exact hrow3.out
                exact ⟨k + 1, L', by omega, by go_num, ⟨H3.out, hrow5, by rw [HL'.out]; omega, by rw [HL'.out]; exact HRI.out.only⟩⟩
              case measure => simp [intOf]; omega
          · have h3 : (k < ys.length ∧ ys[k]? = some false) ∨ ¬ k < ys.length := by
              by_cases hk2 : k < ys.length
              · refine .inl ⟨hk2, ?_⟩
                rw [List.getElem?_eq_getElem hk2] at h7 ⊢
                cases hyk : ys[k] with
                | true => exact absurd ⟨hk2, by rw [hyk]⟩ h7
                | false => rfl
              · exact .inr hk2
            clear h7
            obtain ⟨ev, L', hev, hput⟩ := hP 3 (.inl rfl)
            have HP := Lib.hid hput
            have h7t : texts L' 7 = texts L 7 := by
              rcases hev with ⟨_, e⟩ | ⟨_, e⟩
              · rw [e, texts_snoc, if_neg (by omega)]
              · rw [e]
            have hLl : L'.length ≤ L.length + 1 := by
              rcases hev with ⟨_, e⟩ | ⟨_, e⟩
              · rw [e]; simp
              · rw [e]; omega
            have hLo : Only L' := by
              rcases hev with ⟨_, e⟩ | ⟨_, e⟩
              · rw [e]; exact HRI.out.only.snoc (.inl rfl) x
              · rw [e]; exact HRI.out.only
            have H7T := Lib.hid h7t
            have HLO := Lib.hid hLo
            have hev2 : ev = 0 ∨ ev = 11 := by rcases hev with ⟨e, _⟩ | ⟨e, _⟩ <;> simp [e]
            clear hP hput h7t hLo hev
            rcases h3 with ⟨h3a, h3b⟩ | h3a
            · obtain ⟨b2, o2, rfl, hbl2, hcw2⟩ := HC'.out (by omega)
              have hcy : wr.cell? ⟨b2, o2 + k, none⟩ = some (.bool false) := by
                rw [HRI.out.buf.below.cell (p := ⟨b2, o2 + k, none⟩) hbl2, hcw2 k h3a, List.getElem?_map, h3b]; rfl
              clear hcw2 h3b
              rcases hev2 with rfl | rfl
              all_goals
                go_wp2_with fail
                refine HP.out.mono ?_
                rintro e' w3 ⟨rfl, hbuf3, hsm⟩
                have H3 := Lib.hid hbuf3
                have hrow3 := Lib.hid (row_same HROW.out hsm (fun j hj => List.mem_append.2 (.inl hj)))
                clear hbuf3 hsm
                go_wp2
                go_roundw
                case rel =>
                  have hrow5 : w3.ownsRow w.heap.size 9 1 (Value.slice av tl cv) (texts L' 7).length ((texts L' 7).map Value.string) := by rw [H7T.out, ← HTL.out]; exact hrow3.out
                  exact ⟨k + 1, L', by omega, by go_num, ⟨H3.out, hrow5, by omega, HLO.out⟩⟩
                case measure => simp [intOf]; omega
            · rcases hev2 with rfl | rfl
              all_goals
                go_wp2_with fail
                refine HP.out.mono ?_
                rintro e' w3 ⟨rfl, hbuf3, hsm⟩
                have H3 := Lib.hid hbuf3
                have hrow3 := Lib.hid (row_same HROW.out hsm (fun j hj => List.mem_append.2 (.inl hj)))
                clear hbuf3 hsm
                go_wp2
                go_roundw
                case rel =>
                  have hrow5 : w3.ownsRow w.heap.size 9 1 (Value.slice av tl cv) (texts L' 7).length ((texts L' 7).map Value.string) := by rw [H7T.out, ← HTL.out]; exact hrow3.out
                  exact ⟨k + 1, L', by omega, by go_num, ⟨H3.out, hrow5, by omega, HLO.out⟩⟩
                case measure => simp [intOf]; omega
      · have hL64 : L.length < 4611686018427387904 := by omega
        have hsz := Lib.hid HRI.out.buf.sizeC
        go_wp2_with fail
        refine hsz.out.mono ?_
        rintro e' w3 ⟨rfl, rfl⟩
        go_wp2_with fail
        refine (HRI.out.buf.take 3 (by decide) (by decide) hL64).mono ?_
        rintro e' w4 ⟨v4, rfl, hrow4, hbuf4, hsm4⟩
        obtain ⟨a4, c4, rfl⟩ := row_form hrow4
        have hl3 := len_takeL L 3
        have hl7 := HRI.out.only.len7
        rw [← HTL.out] at hl7
        obtain ⟨t3, ht3⟩ : ∃ t3, t3 = (texts L 3).length := ⟨_, rfl⟩
        obtain ⟨ll, hll⟩ : ∃ ll, ll = L.length := ⟨_, rfl⟩
        have H4 : Hid (BufAt w.heap.size w w4 (w1.heap.size + 1) 64 2 (takeL L 3) 0 (blockOf (Value.slice av tl cv) ++ [])) := hbuf4.sub (fun j hj => List.mem_append.2 (.inr hj))
        have hrw4 := Lib.hid (row_same HROW.out hsm4 (fun j hj => List.mem_append.2 (.inl hj)))
        rw [← ht3] at hl3
        rw [← hll] at hl3 hL64 hLk
        rw [← hll, ← ht3]
        have HT3 := Lib.hid ht3
        have HLL := Lib.hid hll
        have hsum : (ll : Int) - (t3 : Int) = (tl : Int) := by omega
        have hle3 : (t3 : Int) ≤ ll := by omega
        have HSUM := Lib.hid hsum
        have HL7 := Lib.hid hl7
        clear hrow4 hbuf4 hsm4 ht3 hll hl3 hl7 hsum
        go_wp2_with fail
        have hs4 := H4.out.sizeC
        rw [HL7.out] at hs4
        refine hs4.mono ?_
        rintro e' w5 ⟨rfl, rfl⟩
        have hq1 : ((tl : Int) == (ll : Int) - (t3 : Int)) = true := by rw [HSUM.out]; simp
        clear hs4
        go_wp2_with fail
        have hlt4 : (takeL L 3).length < 4611686018427387904 := by have := len_takeL L 3; have := HRI.out.len; omega
        have hdr := H4.out.drop 7 hlt4
        rw [HRI.out.only.drop7, Int.sub_self] at hdr
        refine hdr.mono ?_
        rintro e' w6 ⟨rfl, hbuf6, hsm6⟩
        have H6 := Lib.hid hbuf6
        have hrw6 := Lib.hid (row_same hrw4.out hsm6 (fun j hj => List.mem_append.2 (.inl hj)))
        clear hdr hbuf6 hsm6
        go_wp2_with fail
        have hT := H6.out.take 7 (by decide) (by decide) hlt4
        rw [texts_takeL L (show (7 : Int) ≠ 3 by omega)] at hT
        refine hT.mono ?_
        rintro e' w7 ⟨v7, rfl, hrow7, hbuf7, hsm7⟩
        have HS1 := Lib.hid (StrsAt.of_row hrow7)
        have hrw7 := row_same hrw6.out hsm7 (fun j hj => List.mem_append.2 (.inl hj))
        rw [HTL.out] at hrw7
        have HS2 := Lib.hid (StrsAt.of_row hrw7)
        have H7 := Lib.hid hbuf7
        have HTLE : (texts L 7).length < 9223372036854775807 := by have h1 := HRI.out.len; have h2 := texts_le L 7; omega
        have HT9 := Lib.hid (texts_yes HS1.out HS2.out HTLE)
        rw [← HTL.out] at HT9
        clear hT hrow7 hbuf7 hsm7 hrw7 HTLE hlt4
        go_wp2_with fail
        refine HT9.out.mono ?_
        rintro e' w8 ⟨rfl, q, hq⟩
        have HB : Hid (Below w.heap.size w w8) := by show Below _ _ _; rw [hq]; exact (H7.out.drewN q).below
        clear hq
        go_wp2_with fail
        go_ret
        exact ⟨rfl, HB.out⟩
end Go.Proofs.Ytgmgofcclddkiaa
