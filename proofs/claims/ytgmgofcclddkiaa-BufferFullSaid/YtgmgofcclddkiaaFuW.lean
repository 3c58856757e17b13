/- The law BufferFull walked: it answers true for every room and every list of texts. -/
import Derived.Test.YtgmgofcclddkiaaOpn
import Derived.Test.YtgmgofcclddkiaaRiW
namespace Go.Proofs.Ytgmgofcclddkiaa
open Go.RowKit Go.Maps Go.WideShapes

/-- the things of interval 3 -/
def at3 (ts : List ByteArray) : Things := ts.map (fun t => (3, t))
theorem at3_snoc (ts : List ByteArray) (t : ByteArray) : at3 (ts ++ [t]) = at3 ts ++ [(3, t)] := by simp [at3]
theorem texts_at3 (ts : List ByteArray) : texts (at3 ts) 3 = ts := by
  unfold texts at3
  rw [List.filter_map, List.map_map]
  simp [Function.comp_def]
theorem hasI_at3 (ts : List ByteArray) (i : Int) : hasI (at3 ts) i = true ↔ i = 3 ∧ ts ≠ [] := by
  rw [hasI_iff]
  unfold at3
  constructor
  · rintro ⟨t, ht⟩
    obtain ⟨u, hu, e⟩ := List.mem_map.1 ht
    simp only [Prod.mk.injEq] at e
    exact ⟨e.1.symm, fun h => by rw [h] at hu; simp at hu⟩
  · rintro ⟨rfl, h⟩
    cases ts with
    | nil => exact absurd rfl h
    | cons t r => exact ⟨t, by simp⟩
theorem hasT_at3 (ts : List ByteArray) (t : ByteArray) : hasT (at3 ts) 3 t = true ↔ t ∈ ts := by
  rw [hasT_iff]
  unfold at3
  simp
theorem ivs_at3 (ts : List ByteArray) : ivs (at3 ts) = if ts = [] then [] else [3] := by
  refine rise_ext (ivs_rise _) ?_ (fun x => ?_)
  · split <;> simp
  · rw [mem_ivs, hasI_at3]
    split
    · rename_i h; simp [h]
    · rename_i h; simp [h]

/-- the next ones of the list -/
theorem full_old {e : Nat} {ts : List ByteArray} {t : ByteArray} (h : t ∈ ts) : putE e 2 (at3 ts) 3 t = 11 := by
  unfold putE; rw [if_neg (by omega), if_pos ((hasT_at3 ts t).2 h)]
theorem full_no {e : Nat} {ts : List ByteArray} {t : ByteArray} (h : ¬ t ∈ ts) (he : 1 ≤ e) (hl : e ≤ ts.length) : putE e 2 (at3 ts) 3 t = 4 := by
  have hne : ts ≠ [] := fun h => by rw [h] at hl; simp at hl; omega
  unfold putE
  rw [if_neg (by omega), if_neg (fun hh => h ((hasT_at3 ts t).1 hh)), if_pos ((hasI_at3 ts 3).2 ⟨rfl, hne⟩), texts_at3, if_neg (by omega)]
theorem full_new {e : Nat} {ts : List ByteArray} {t : ByteArray} (h : ¬ t ∈ ts) (hl : ts.length < e) : putE e 2 (at3 ts) 3 t = 0 := by
  unfold putE
  rw [if_neg (by omega), if_neg (fun hh => h ((hasT_at3 ts t).1 hh))]
  by_cases hne : ts = []
  · subst hne
    rw [if_neg (by simp [at3, hasI])]
    simp [at3, ivs]
  · rw [if_pos ((hasI_at3 ts 3).2 ⟨rfl, hne⟩), texts_at3, if_pos hl]

def sY : ByteArray := { data := #[121] }
theorem full_4 (e : Nat) (ts : List ByteArray) : putE e 2 (at3 ts) 4 sX = 0 := by
  have hi : ¬ hasI (at3 ts) 4 = true := fun h => by have := ((hasI_at3 ts 4).1 h).1; omega
  unfold putE
  rw [if_neg (by omega), if_neg (by rw [hasT_no hi]; simp), if_neg hi, if_pos]
  rw [ivs_at3]; split <;> simp
theorem full_5 (e : Nat) {ts : List ByteArray} (h : ts ≠ []) : putE e 2 (at3 ts ++ [(4, sX)]) 5 sY = 4 := by
  have hi : ¬ hasI (at3 ts ++ [(4, sX)]) 5 = true := fun hh => by
    rw [hasI_snoc] at hh
    simp only [Bool.or_eq_true, beq_iff_eq] at hh
    rcases hh with hh | hh
    · have := ((hasI_at3 ts 5).1 hh).1; omega
    · omega
  unfold putE
  rw [if_neg (by omega), if_neg (by rw [hasT_no hi]; simp), if_neg hi, if_neg]
  rw [ivs_snoc, ivs_at3, if_neg h]; decide
theorem full_t (ts : List ByteArray) : texts (at3 ts ++ [(4, sX)]) 3 = ts := by rw [texts_snoc, if_neg (by omega), texts_at3]
theorem full_k (ts : List ByteArray) : takeL (at3 ts ++ [(4, sX)]) 3 = [(4, sX)] := by
  unfold takeL at3
  rw [List.filter_append, List.filter_map]
  simp [Function.comp_def]
theorem full_6 (e : Nat) : putE e 2 [(4, sX)] 5 sY = 0 := by
  have hi : ¬ hasI [(4, sX)] 5 = true := by decide
  unfold putE
  rw [if_neg (by omega), if_neg (by rw [hasT_no hi]; simp), if_neg hi, if_pos]
  decide

/-- what the loop carries -/
structure Filling (B : Nat) (w0 : World) (p sb : Nat) (e : Nat) (k : Nat) (ts : List ByteArray) (v : Value) (wr : World) : Prop where
  buf : ∃ dr : Int, 0 ≤ dr ∧ dr ≤ k ∧ BufAt B w0 wr p e 2 (at3 ts) dr (blockOf v ++ [sb])
  set : MapIs Try.prog 9 wr sb ts.length (setG ts)
  row : wr.ownsRow B 9 1 v ts.length (ts.map Value.string)
  len : ts.length ≤ e
  sB : B ≤ sb

theorem setG_mem (ts : List ByteArray) (t : ByteArray) : (setG ts (.string t.data.toList)).getD (.bool false) = .bool (@decide (t ∈ ts) (Classical.propDecidable _)) := by
  by_cases h : t ∈ ts
  · have : t.data.toList ∈ ts.map (·.data.toList) := List.mem_map.2 ⟨t, h, rfl⟩
    simp only [setG]; rw [if_pos this]; simp [h]
  · have : ¬ t.data.toList ∈ ts.map (·.data.toList) := fun hm => by
      obtain ⟨u, hu, e⟩ := List.mem_map.1 hm
      exact h (toList_inj e ▸ hu)
    simp only [setG]; rw [if_neg this]; simp [h]

set_option maxRecDepth 100000 in
set_option maxHeartbeats 4000000 in
theorem full_walk (w : World) (c : Int) (hcw : (Lit.int .u8 c).wf = true) (v : Value) (xs : List ByteArray) (hx : CellsAt w v (xs.map Value.string)) (hxs : ∀ s ∈ xs, s.size ≤ maxLen) :
    Calls Try.prog 6 #[.int .u8 c, v] w fun e w' => e = .returned (.bool true) ∧ Below w.heap.size w w' := by
  have haw := Lib.hid (awake_any w)
  have hmm := @run_makeMap Try.prog
  obtain ⟨hc0, hc1⟩ := u8_bounds hcw
  obtain ⟨hml, a, cap, rfl, hcells⟩ := hx
  simp only [List.length_map] at hml hcells ⊢
  obtain ⟨m, hm⟩ : ∃ m : Int, m = c % 64 := ⟨_, rfl⟩
  have hm0 : 0 ≤ m ∧ m ≤ 63 := by omega
  obtain ⟨hm1, hm2⟩ := hm0
  have hml2 : xs.length ≤ 9223372036854775807 := by unfold maxLen at hml; omega
  have HM := Lib.hid hm
  have HC := Lib.hid hcells
  have HXS := Lib.hid hxs
  clear hcells hm hxs hcw hml
  go_enter Try.func6, Try.ntmps6
  go_wp2_with fail
  refine haw.out.mono ?_
  rintro e w1 ⟨rfl, hb⟩
  have HB1 := Lib.hid hb
  clear hb
  go_wp2_with fail
  rw [← HM.out]
  obtain ⟨e, he⟩ : ∃ e : Nat, (e : Int) = m + 1 := ⟨(m + 1).toNat, by omega⟩
  rw [← he]
  have he1 : 1 ≤ e := by omega
  have he2 : e ≤ 64 := by omega
  clear he hm1 hm2 HM hc0 hc1
  refine (BufAt.new (B := w.heap.size) (w0 := w) HB1.out HB1.out.size [] (by simp) e 2 (by omega) (by omega) (by decide) (by decide)).mono ?_
  rintro e' w2 ⟨rfl, h, _, _⟩
  have H2 : Hid (BufAt w.heap.size w w2 (w1.heap.size + 1) e 2 [] 0 []) := by show BufAt _ _ _ _ _ _ _ _ _; simpa using h
  clear h
  by_cases hbig : 100 < xs.length
  · go_wp2
    go_ret
    exact ⟨rfl, H2.out.below⟩
  · go_wp2_with fail
    obtain ⟨i0, hi, hz0, hz1, hz2⟩ := info_parts infoStr
    go_loopw [9, 36] (fun v ix wr => ∃ (k : Nat) (ts : List ByteArray), k ≤ xs.length ∧ ix = .int .i64 k ∧ Filling w.heap.size w (w1.heap.size + 1) w2.heap.size e k ts v wr) (fun _ ix _ => xs.length - (intOf ix).toNat)
    case atStart =>
      have h1 := H2.out.alloc (Obj.map #[] 0)
      have h2 := h1.alloc (Obj.cells #[] 9)
      refine ⟨0, [], Nat.zero_le _, rfl, ⟨⟨0, by omega, by omega, ?_⟩, ?_, ?_, Nat.zero_le _, H2.out.size⟩⟩
      · simpa [blockOf, Value.ownBlock, at3] using h2
      · have := (MapIs.made w2 Try.prog 9).block (w' := (w2.alloc (Obj.map #[] 0)).alloc (Obj.cells #[] 9)) (Below.heap_alloc _ _ _ (by simp))
        refine this.congr (fun l => ?_)
        unfold setG; split <;> simp
      · have := World.ownsRow_made (base := w.heap.size) (size := 1) (e := 9) (w2.alloc (Obj.map #[] 0)) #[] 0 (by have := H2.out.size; simp; omega) (Nat.zero_le _) rfl
        simpa using this
    case round =>
      obtain ⟨k, ts, hk, rfl, R⟩ := hrel
      have HRI := Lib.hid R
      obtain ⟨av, cv, hv⟩ := row_form R.row
      subst hv
      clear R
      by_cases hlt : k < xs.length
      · obtain ⟨b, o, rfl, hbl, hcw⟩ := HC.out (by omega)
        have hck := hcw k hlt
        obtain ⟨x, hx⟩ : ∃ x, x = xs[k] := ⟨_, rfl⟩
        have hck' : w.cell? ⟨b, o + k, none⟩ = some (.string x) := by rw [hck, hx]; simp [hlt]
        have hxm : x.size ≤ maxLen := HXS.out x (by rw [hx]; exact List.getElem_mem _)
        have hxz : x.size ≤ 9223372036854775807 := by unfold maxLen at hxm; omega
        obtain ⟨dr, hd0, hd1, hbuf⟩ := HRI.out.buf
        have hcr : wr.cell? ⟨b, o + k, none⟩ = some (.string x) := (hbuf.below.cell (p := ⟨b, o + k, none⟩) hbl).trans hck'
        have HBUF := Lib.hid hbuf
        have HXM := Lib.hid hxm
        have htl := HRI.out.len
        clear hbuf hck hck' hcw hx hxm
        by_cases hbigx : 200 < (x.size : Int)
        · go_wp2
          go_ret
          exact ⟨rfl, HBUF.out.below⟩
        · have hx200 : x.size ≤ 200 := by omega
          have hL : (at3 ts).length < 4611686018427387904 := by unfold at3; rw [List.length_map]; omega
          have hk0 := Go.WideMaps.keyOf_string_mk Try.underlying9 HXM.out
          have HK := Lib.hid hk0
          clear hk0
          by_cases hin : x ∈ ts
          · have HP := Lib.hid (HBUF.out.put' 3 x (by decide) (by decide) HXM.out (by omega) (by omega) hL (L' := at3 ts) (dr' := dr) (full_old hin) rfl rfl)
            go_wp2_with fail
            refine HP.out.mono ?_
            rintro e' w3 ⟨rfl, hbuf3, hsm⟩
            have H3 := Lib.hid hbuf3
            have hset3 := HRI.out.set.block (hsm.2 w2.heap.size (by simp))
            have hrow3 := Lib.hid (row_same HRI.out.row hsm (fun j hj => List.mem_append.2 (.inl hj)))
            have hlk := hset3.look keyed9 Try.underlying49 (zero4 w3) HK.out
            rw [setG_mem] at hlk
            have hlk : (Instr.lookup 49 (.map (some w2.heap.size)) (.string x) false).run Try.prog w3 = .ok (.bool true) w3 := by rw [hlk]; simp [hin]
            have HS3 := Lib.hid hset3
            clear hbuf3 hsm hset3
            go_wp2
            go_roundw
            case rel => exact ⟨k + 1, ts, by omega, by go_num, ⟨⟨dr, hd0, by omega, H3.out⟩, HS3.out, hrow3.out, htl, HRI.out.sB⟩⟩
            case measure => simp [intOf]; omega
          · by_cases hroom : ts.length < e
            · have HP := Lib.hid (HBUF.out.put' 3 x (by decide) (by decide) HXM.out (by omega) (by omega) hL (L' := at3 ts ++ [(3, x)]) (dr' := dr) (full_new hin hroom) rfl rfl)
              go_wp2_with fail
              refine HP.out.mono ?_
              rintro e' w3 ⟨rfl, hbuf3, hsm⟩
              have H3 := Lib.hid hbuf3
              have hset3 := HRI.out.set.block (hsm.2 w2.heap.size (by simp))
              have hrow3 := Lib.hid (row_same HRI.out.row hsm (fun j hj => List.mem_append.2 (.inl hj)))
              have hlk := hset3.look keyed9 Try.underlying49 (zero4 w3) HK.out
              rw [setG_mem] at hlk
              have hlk : (Instr.lookup 49 (.map (some w2.heap.size)) (.string x) false).run Try.prog w3 = .ok (.bool false) w3 := by rw [hlk]; simp [hin]
              have HS3 := Lib.hid hset3
              have hmx : ts.length < maxLen := by unfold maxLen; omega
              have hmx2 : ts.length + 1 ≤ maxLen := by unfold maxLen; omega
              clear hbuf3 hsm hset3
              go_wp2_with (first
                | (at_mapUpdate; refine wpList_store (val := .bool true) _ rfl _ _ _ 49 rfl keyed9 Try.underlying49 rfl HS3.out hmx rfl rfl HK.out ?_; intro w4 hm4 ht4; have HM4 := Lib.hid hm4; have HT4 := Lib.hid ht4; have hrow4 := Lib.hid (row_turned hrow3.out HS3.out ht4); have hz4 := size_turned H3.out.size ht4; clear hm4 ht4)
                | (at_builtin; refine wpList_append_own_at _ rfl _ _ 36 rfl w.heap.size 9 i0 (.string ByteArray.empty) 1 16 Try.underlying36 hi hz0 hz1 hz2 rfl (by decide) _ _ _ rfl (hrow4.out.alloc _) ⟨w4.heap.size, 0, none⟩ 1 1 [.string x] rfl rfl (cell_one_new _ _ _) (fun u hu => by simp at hu; subst hu; rfl) hmx2 (by omega) (by simp; omega) ?_; intro v' w5 hown' hgrow _ hloc; have HOWN := Lib.hid hown'; have HG := Lib.hid hgrow; have HL := Lib.hid hloc; clear hown' hgrow hloc))
              go_roundw
              case rel =>
                have hb4 := H3.out.mapTurned (b := w2.heap.size) (by simp) HRI.out.sB HT4.out
                have hrow5 : w5.ownsRow w.heap.size 9 1 v' (ts ++ [x]).length ((ts ++ [x]).map Value.string) := by simpa using HOWN.out
                have hb4a : BufAt w.heap.size w (w4.alloc (Obj.cells #[Value.string x] 9)) (w1.heap.size + 1) e 2 (at3 ts ++ [(3, x)]) dr (blockOf (Value.slice av ts.length cv) ++ [w2.heap.size]) := (hb4.alloc _).sub (fun j hj => List.mem_cons_of_mem _ hj)
                have hb5 := hb4a.appended (fun j hj => (row_lt hrow4.out j hj).1) HG.out HL.out (fun k hk => (hrow5.lt k hk).2)
                have hset5 := (HM4.out.block (w' := w4.alloc (Obj.cells #[Value.string x] 9)) (Below.heap_alloc _ _ _ HM4.out.lt)).grown (hrow4.out.alloc _) HG.out
                refine ⟨k + 1, ts ++ [x], by omega, by go_num, ⟨⟨dr, hd0, by omega, ?_⟩, ?_, hrow5, by simp; omega, HRI.out.sB⟩⟩
                · rw [at3_snoc]; exact hb5
                · have := hset5.congr (fun l => setG_snoc ts x l)
                  simpa using this
              case measure => simp [intOf]; omega
            · have HP := Lib.hid (HBUF.out.put' 3 x (by decide) (by decide) HXM.out (by omega) (by omega) hL (L' := at3 ts) (dr' := dr + 1) (full_no hin he1 (by omega)) rfl rfl)
              go_wp2_with fail
              refine HP.out.mono ?_
              rintro e' w3 ⟨rfl, hbuf3, hsm⟩
              have H3 := Lib.hid hbuf3
              have hset3 := HRI.out.set.block (hsm.2 w2.heap.size (by simp))
              have hrow3 := Lib.hid (row_same HRI.out.row hsm (fun j hj => List.mem_append.2 (.inl hj)))
              have hlk := hset3.look keyed9 Try.underlying49 (zero4 w3) HK.out
              rw [setG_mem] at hlk
              have hlk : (Instr.lookup 49 (.map (some w2.heap.size)) (.string x) false).run Try.prog w3 = .ok (.bool false) w3 := by rw [hlk]; simp [hin]
              have HS3 := Lib.hid hset3
              clear hbuf3 hsm hset3
              go_wp2
              go_roundw
              case rel => exact ⟨k + 1, ts, by omega, by go_num, ⟨⟨dr + 1, by omega, by omega, H3.out⟩, HS3.out, hrow3.out, htl, HRI.out.sB⟩⟩
              case measure => simp [intOf]; omega
      · have htl := HRI.out.len
        obtain ⟨dr, hd0, hd1, hbuf⟩ := HRI.out.buf
        have HBUF := Lib.hid hbuf
        clear hbuf
        have hL : (at3 ts).length < 4611686018427387904 := by unfold at3; rw [List.length_map]; omega
        have hL2 : (at3 ts ++ [(4, sX)]).length < 4611686018427387904 := by simp [at3]; omega
        have HP := Lib.hid (HBUF.out.put' 4 sX (by decide) (by decide) (small1 _ (by decide)) (by omega) (by omega) hL (L' := at3 ts ++ [(4, sX)]) (dr' := dr) (full_4 e ts) rfl rfl)
        go_wp2_with fail
        refine HP.out.mono ?_
        rintro e' w3 ⟨rfl, hbuf3, hsm⟩
        have H3 := Lib.hid hbuf3
        have hrow3 := Lib.hid (row_same HRI.out.row hsm (fun j hj => List.mem_append.2 (.inl hj)))
        clear hbuf3 hsm
        by_cases hne : ts = []
        · have hn0 : ts.length = 0 := by rw [hne]; rfl
          have hn1 : ¬ (0 : Int) < (ts.length : Int) := by omega
          have HN := Lib.hid hne
          clear hne hn0
          go_wp2_with fail
          have hT := H3.out.take 3 (by decide) (by decide) hL2
          rw [full_t, full_k] at hT
          refine hT.mono ?_
          rintro e' w4 ⟨v4, rfl, hrow, hbuf4, hsm⟩
          have HS1 := Lib.hid (StrsAt.of_row hrow)
          have HS2 := Lib.hid (StrsAt.of_row (row_same hrow3.out hsm (fun j hj => List.mem_append.2 (.inl hj))))
          have H4 := Lib.hid hbuf4
          clear hT hrow hbuf4 hsm
          go_wp2_with fail
          refine (texts_yes HS1.out HS2.out (by omega)).mono ?_
          rintro e' w5 ⟨rfl, q, hq⟩
          have H5 : Hid (BufAt w.heap.size w w5 (w1.heap.size + 1) e 2 [(4, sX)] dr (blockOf v4 ++ (blockOf (Value.slice av ts.length cv) ++ [w2.heap.size]))) := by show BufAt _ _ _ _ _ _ _ _ _; rw [hq]; exact H4.out.drewN q
          clear hq
          go_wp2_with fail
          refine (H5.out.put' 5 sY (by decide) (by decide) (small1 _ (by decide)) (by omega) (by omega) (by simp) (L' := [(4, sX), (5, sY)]) (dr' := dr) (full_6 e) rfl rfl).mono ?_
          rintro e' w6 ⟨rfl, hbuf6, _⟩
          have HB := Lib.hid hbuf6.below
          clear hbuf6
          go_wp2_with fail
          go_ret
          exact ⟨rfl, HB.out⟩
        · have hn1 : (0 : Int) < (ts.length : Int) := by have := List.length_pos_iff.2 hne; omega
          have HN := Lib.hid hne
          clear hne
          go_wp2_with fail
          refine (H3.out.put' 5 sY (by decide) (by decide) (small1 _ (by decide)) (by omega) (by omega) hL2 (L' := at3 ts ++ [(4, sX)]) (dr' := dr + 1) (full_5 e HN.out) rfl rfl).mono ?_
          rintro e' w3' ⟨rfl, hbuf3, hsm⟩
          have H3' := Lib.hid hbuf3
          have hrow3' := Lib.hid (row_same hrow3.out hsm (fun j hj => List.mem_append.2 (.inl hj)))
          clear hbuf3 hsm
          go_wp2_with fail
          have hT := H3'.out.take 3 (by decide) (by decide) hL2
          rw [full_t, full_k] at hT
          refine hT.mono ?_
          rintro e' w4 ⟨v4, rfl, hrow, hbuf4, hsm⟩
          have HS1 := Lib.hid (StrsAt.of_row hrow)
          have HS2 := Lib.hid (StrsAt.of_row (row_same hrow3'.out hsm (fun j hj => List.mem_append.2 (.inl hj))))
          have H4 := Lib.hid hbuf4
          clear hT hrow hbuf4 hsm
          go_wp2_with fail
          refine (texts_yes HS1.out HS2.out (by omega)).mono ?_
          rintro e' w5 ⟨rfl, q, hq⟩
          have H5 : Hid (BufAt w.heap.size w w5 (w1.heap.size + 1) e 2 [(4, sX)] (dr + 1) (blockOf v4 ++ (blockOf (Value.slice av ts.length cv) ++ [w2.heap.size]))) := by show BufAt _ _ _ _ _ _ _ _ _; rw [hq]; exact H4.out.drewN q
          clear hq
          go_wp2_with fail
          refine (H5.out.put' 5 sY (by decide) (by decide) (small1 _ (by decide)) (by omega) (by omega) (by simp) (L' := [(4, sX), (5, sY)]) (dr' := dr + 1) (full_6 e) rfl rfl).mono ?_
          rintro e' w6 ⟨rfl, hbuf6, _⟩
          have HB := Lib.hid hbuf6.below
          clear hbuf6
          go_wp2_with fail
          go_ret
          exact ⟨rfl, HB.out⟩
end Go.Proofs.Ytgmgofcclddkiaa
