/- The law BufferRises walked: it answers true for every list of bytes. -/
import Derived.Test.YtgmgofcclddkiaaAw2
import Derived.Deep.Cut
import Derived.IntWalk
namespace Go.Proofs.Ytgmgofcclddkiaa
open Go.RowKit Go.Maps Go.WideShapes

/-- a slice of integers that came in -/
def IsRow (k : IntKind) (w : World) (a : Option Addr) (len cap : Nat) (zs : List Int) : Prop :=
  (a = none ∧ len = 0 ∧ cap = 0 ∧ zs = []) ∨
  ∃ x, a = some x ∧ len ≤ cap ∧ cap ≤ maxLen ∧ zs.length = cap ∧ (∀ i, i < zs.length → w.cell? (x.add i) = some (.int k (zs.getD i 0))) ∧ ∀ n ∈ zs, (Lit.int k n).wf = true

/-- the set of the intervals that have something -/
def seenG (L : Things) : Lit → Option Value
  | .int .i64 i => if hasI L i = true then some (.bool true) else none
  | _ => none
theorem seenG_snoc (L : Things) (i : Int) (t : ByteArray) (l : Lit) : seenG (L ++ [(i, t)]) l = upd (seenG L) (.int .i64 i) (some (.bool true)) l := by
  by_cases h : l = .int .i64 i
  · subst h; rw [upd_same]; simp [seenG, hasI_snoc]
  · rw [upd_other _ h]
    unfold seenG
    split
    · rename_i j
      have hj : ¬ i = j := fun e => h (by rw [e])
      rw [hasI_snoc]; simp [hj]
    · rfl
theorem seenG_takeL (L : Things) (i : Int) (l : Lit) : seenG (takeL L i) l = upd (seenG L) (.int .i64 i) none l := by
  by_cases h : l = .int .i64 i
  · subst h
    rw [upd_same]
    have : ¬ hasI (takeL L i) i = true := fun hh => ((hasI_takeL L i i).1 hh).2 rfl
    simp only [seenG]; rw [if_neg this]
  · rw [upd_other _ h]
    unfold seenG
    split
    · rename_i j
      have hj : j ≠ i := fun e => h (by rw [e])
      by_cases hh : hasI L j = true
      · rw [if_pos ((hasI_takeL L i j).2 ⟨hh, hj⟩), if_pos hh]
      · rw [if_neg (fun h2 => hh ((hasI_takeL L i j).1 h2).1), if_neg hh]
    · rfl
theorem seenG_some (L : Things) (l : Lit) : l ∈ keysOf L ↔ (seenG L l).isSome = true := by
  unfold keysOf
  rw [List.mem_map]
  constructor
  · rintro ⟨i, hi, rfl⟩
    simp only [seenG]
    rw [if_pos ((mem_ivs L i).1 hi)]; rfl
  · intro h
    unfold seenG at h
    split at h
    · rename_i i
      split at h
      · rename_i hi; exact ⟨i, (mem_ivs L i).2 hi, rfl⟩
      · cases h
    · cases h
theorem len_ivs_nodup (L : Things) : (L.map (·.1)).Nodup → (ivs L).length = L.length := by
  induction L using snoc_ind with
  | h0 => intro _; rfl
  | h1 L i t ih =>
    intro h
    rw [List.map_append, List.nodup_append] at h
    obtain ⟨h1, _, h3⟩ := h
    rw [len_ivs_snoc, ih h1]
    have : ¬ hasI L i = true := fun hi => by
      obtain ⟨u, hu⟩ := (hasI_iff L i).1 hi
      exact h3 i (List.mem_map.2 ⟨_, hu, rfl⟩) i (by simp) rfl
    rw [if_neg this]; simp
theorem nodup_takeL {L : Things} (h : (L.map (·.1)).Nodup) (i : Int) : ((takeL L i).map (·.1)).Nodup :=
  h.sublist (List.filter_sublist.map _)
theorem nodup_snoc {L : Things} (h : (L.map (·.1)).Nodup) {i : Int} (hi : ¬ hasI L i = true) (t : ByteArray) : ((L ++ [(i, t)]).map (·.1)).Nodup := by
  rw [List.map_append, List.nodup_append]
  refine ⟨h, by simp, fun a ha b hb e => ?_⟩
  simp at hb
  subst hb; subst e
  obtain ⟨q, hq, rfl⟩ := List.mem_map.1 ha
  exact hi ((hasI_iff L q.1).2 ⟨q.2, hq⟩)

/-- what the law's first loop carries -/
structure Rising (B : Nat) (w0 : World) (p sb : Nat) (k : Nat) (L : Things) (wr : World) : Prop where
  buf : BufAt B w0 wr p 1 64 L 0 [sb]
  set : MapIs Try.prog 3 wr sb (ivs L).length (seenG L)
  nd : (L.map (·.1)).Nodup
  len : (ivs L).length ≤ k
  sB : B ≤ sb

theorem rise_put {k : Nat} {L : Things} (hk : (ivs L).length ≤ k) (h64 : k < 64) {i : Int} (hi : ¬ i < 1) (hn : ¬ hasI L i = true) (t : ByteArray) : putE 1 64 L i t = 0 := by
  unfold putE
  rw [if_neg hi, if_neg (by rw [hasT_no hn]; simp), if_neg hn, if_pos (by omega)]

/-- the cells of a slice of bytes that came in -/
theorem IsRow.cells {k : IntKind} {w : World} {a : Option Addr} {len cap : Nat} {zs : List Int} (h : IsRow k w a len cap zs) (hl : 0 < len) :
    ∃ b o, a = some ⟨b, o, none⟩ ∧ ∀ j, j < len → b < w.heap.size ∧ w.cell? ⟨b, o + j, none⟩ = some (.int k (zs.getD j 0)) ∧ (Lit.int k (zs.getD j 0)).wf = true := by
  rcases h with ⟨_, rfl, _⟩ | ⟨x, rfl, h1, h2, h3, h4, h5⟩
  · omega
  · obtain ⟨b, o, spot⟩ := x
    have hc := h4 0 (by omega)
    have hspot : spot = none := by simpa [Addr.add] using World.cell?_spot hc
    subst hspot
    refine ⟨b, o, rfl, fun j hj => ?_⟩
    have hcj := h4 j (by omega)
    have hcj' : w.cell? ⟨b, o + j, none⟩ = some (.int k (zs.getD j 0)) := by
      by_cases h0 : j = 0
      · subst h0; simpa [Addr.add] using hcj
      · simpa [Addr.add, h0] using hcj
    refine ⟨?_, hcj', ?_⟩
    · unfold World.cell? at hcj'
      split at hcj'
      · rename_i hb; exact (Array.getElem?_eq_some_iff.1 hb).1
      · cases hcj'
    · refine h5 _ ?_
      rw [List.getD_eq_getElem?_getD, List.getElem?_eq_getElem (by omega)]
      exact List.getElem_mem _
theorem u8_bounds {x : Int} (h : (Lit.int .u8 x).wf = true) : 0 ≤ x ∧ x ≤ 255 := by
  simp [Lit.wf, IntKind.min, IntKind.max, IntKind.bits, IntKind.signed] at h
  omega

set_option maxRecDepth 100000 in
set_option maxHeartbeats 4000000 in
theorem rises_walk (a : Option Addr) (len cap : Nat) (zs : List Int) (w : World) (hr : IsRow .u8 w a len cap zs) :
    Calls Try.prog 9 #[.slice a len cap] w fun e w' => e = .returned (.bool true) ∧ Below w.heap.size w w' := by
  have haw := Lib.hid (awake_any w)
  have hmm := @run_makeMap Try.prog
  go_enter Try.func9, Try.ntmps9
  go_wp2_with fail
  refine haw.out.mono ?_
  rintro e w1 ⟨rfl, hb⟩
  have HB1 := Lib.hid hb
  clear hb
  go_wp2_with fail
  refine (BufAt.new (B := w.heap.size) (w0 := w) HB1.out HB1.out.size [] (by simp) 1 64 (by decide) (by decide) (by decide) (by decide)).mono ?_
  rintro e w2 ⟨rfl, h, _, _⟩
  have H2 : Hid (BufAt w.heap.size w w2 (w1.heap.size + 1) 1 64 [] 0 []) := h
  clear h
  go_wp2_with fail
  have HR := Lib.hid hr
  clear hr
  go_loopw [6] (fun ix wr => ∃ (k : Nat) (L : Things), k ≤ len ∧ k ≤ 64 ∧ ix = .int .i64 k ∧ Rising w.heap.size w (w1.heap.size + 1) w2.heap.size k L wr) (fun ix _ => len - (intOf ix).toNat)
  case atStart =>
    refine ⟨0, [], Nat.zero_le _, by omega, rfl, ⟨(H2.out.alloc _), ?_, List.nodup_nil, Nat.le_refl _, H2.out.size⟩⟩
    refine (MapIs.made w2 Try.prog 3).congr (fun l => ?_)
    unfold seenG; split <;> simp [hasI]
  case round =>
    obtain ⟨k, L, hk, hk64, rfl, R⟩ := hrel
    have HRI := Lib.hid R
    clear R
    by_cases hlt : k < len ∧ k < 64
    · obtain ⟨hlt1, hlt2⟩ := hlt
      obtain ⟨b, o, rfl, hc⟩ := HR.out.cells (by omega)
      obtain ⟨hbl, hcw, hwf⟩ := hc k hlt1
      have hxb := u8_bounds hwf
      obtain ⟨x, hx⟩ : ∃ x, x = zs.getD k 0 := ⟨_, rfl⟩
      rw [← hx] at hcw hxb
      have hcr : wr.cell? ⟨b, o + k, none⟩ = some (.int .u8 x) := (HRI.out.buf.below.cell (p := ⟨b, o + k, none⟩) hbl).trans hcw
      obtain ⟨hx0, hx1⟩ := hxb
      have HK := Lib.hid (keyOf_int_mk Try.underlying3 (wf_i (x + 1) (by omega) (by omega)))
      clear hc hwf hcw hx
      by_cases hs : hasI L (x + 1) = true
      · have hlk : (Instr.lookup 56 (.map (some w2.heap.size)) (.int .i64 (x + 1)) false).run Try.prog wr = .ok (.bool true) wr := by
          rw [HRI.out.set.look keyed3 Try.underlying56 (zero4 wr) HK.out]
          simp only [seenG]; rw [if_pos hs]; rfl
        have HS := Lib.hid hs
        clear hs
        go_wp2_with fail
        refine (HRI.out.buf.take (x + 1) (by omega) (by omega) (by have := HRI.out.buf.fine; have h1 := HRI.out.len; have h2 := len_ivs_nodup L HRI.out.nd; omega)).mono ?_
        rintro e w3 ⟨v, rfl, hrow, hbuf, hsm⟩
        have HB3 : Hid (BufAt w.heap.size w w3 (w1.heap.size + 1) 1 64 (takeL L (x + 1)) 0 [w2.heap.size]) := hbuf.sub (by simp)
        have HM3 : Hid (MapIs Try.prog 3 w3 w2.heap.size (ivs L).length (seenG L)) := HRI.out.set.block (hsm.2 _ (by simp))
        clear hrow hbuf hsm
        go_wp2_with (at_delete; refine wpList_drop _ rfl _ _ 56 3 rfl keyed3 Try.underlying56 rfl HM3.out rfl HK.out ?_; intro w4 hm4 ht4; have HM4 := Lib.hid hm4; have HT4 := Lib.hid ht4; clear hm4 ht4)
        go_roundw
        case rel =>
          have hb4 := HB3.out.mapTurned (by simp) HRI.out.sB HT4.out
          have hle : (ivs (takeL L (x + 1))).length ≤ (ivs L).length := len_ivs_le (fun j hj => ((hasI_takeL L (x + 1) j).1 hj).1)
          have hlen := HRI.out.len
          refine ⟨k + 1, takeL L (x + 1), by omega, by omega, by go_num, ⟨hb4, ?_, nodup_takeL HRI.out.nd _, by omega, HRI.out.sB⟩⟩
          have := (HM4.out.congr (fun l => seenG_takeL L (x + 1) l)).tight keyed3 (keysOf_nodup (takeL L (x + 1))) (fun l => seenG_some (takeL L (x + 1)) l)
          rw [keysOf_len] at this; exact this
        case measure => simp [intOf]; omega
      · have hlk : (Instr.lookup 56 (.map (some w2.heap.size)) (.int .i64 (x + 1)) false).run Try.prog wr = .ok (.bool false) wr := by
          rw [HRI.out.set.look keyed3 Try.underlying56 (zero4 wr) HK.out]
          simp only [seenG]; rw [if_neg hs]; rfl
        have HS := Lib.hid hs
        clear hs
        go_wp2_with fail
        refine (HRI.out.buf.put' (x + 1) sX (by omega) (by omega) (small1 _ (by decide)) (by decide) (by decide) (by have h1 := HRI.out.len; have h2 := len_ivs_nodup L HRI.out.nd; omega) (L' := L ++ [(x + 1, sX)]) (dr' := 0) (rise_put HRI.out.len hlt2 (by omega) HS.out _) rfl rfl).mono ?_
        rintro e w3 ⟨rfl, hbuf, hsm⟩
        have HB3 := Lib.hid hbuf
        have HM3 : Hid (MapIs Try.prog 3 w3 w2.heap.size (ivs L).length (seenG L)) := HRI.out.set.block (hsm.2 _ (by simp))
        clear hbuf hsm
        have hlm : (ivs L).length < maxLen := by have := HRI.out.len; unfold maxLen; omega
        go_wp2_with (at_mapUpdate; refine wpList_store (val := .bool true) _ rfl _ _ _ 56 rfl keyed3 Try.underlying56 rfl HM3.out hlm rfl rfl HK.out ?_; intro w4 hm4 ht4; have HM4 := Lib.hid hm4; have HT4 := Lib.hid ht4; clear hm4 ht4)
        go_roundw
        case rel =>
          have hb4 := HB3.out.mapTurned (by simp) HRI.out.sB HT4.out
          have hlen := HRI.out.len
          have hls := len_ivs_snoc L (x + 1) sX
          rw [if_neg HS.out] at hls
          refine ⟨k + 1, L ++ [(x + 1, sX)], by omega, by omega, by go_num, ⟨hb4, ?_, nodup_snoc HRI.out.nd HS.out _, by omega, HRI.out.sB⟩⟩
          rw [hls]
          exact HM4.out.congr (fun l => seenG_snoc L (x + 1) sX l)
        case measure => simp [intOf]; omega
    · have hlen := HRI.out.buf.fine
      have hk2 : len ≤ k ∨ (k < len ∧ 64 ≤ k) := by omega
      clear hlt hlen
      have CI := Lib.hid HRI.out.buf.intervals
      rcases hk2 with hk2 | ⟨hk2, hk3⟩
      all_goals
        go_wp2_with fail
        refine CI.out.mono ?_
        rintro e w3 ⟨v, rfl, hrow, hbuf, hsm⟩
        obtain ⟨av, cv, rfl⟩ := row_form hrow
        have HROW := Lib.hid hrow
        have HB3 : Hid (BufAt w.heap.size w w3 (w1.heap.size + 1) 1 64 L 0 [w2.heap.size]) := hbuf.sub (by intro j hj; exact List.mem_append.2 (.inr hj))
        have HM3 : Hid (MapIs Try.prog 3 w3 w2.heap.size (ivs L).length (seenG L)) := HRI.out.set.block (hsm.2 _ (by simp))
        clear hrow hbuf hsm
        obtain ⟨xs, hxs⟩ : ∃ xs, xs = ivs L := ⟨_, rfl⟩
        rw [← hxs] at HROW ⊢
        have HX := Lib.hid hxs
        clear hxs
        go_wp2_with fail
        go_loopw [53] (fun ix wr => ∃ (j q : Nat), j ≤ xs.length ∧ ix = .int .i64 j ∧ wr = w3.drewN q) (fun ix _ => xs.length - (intOf ix).toNat)
        case atStart => exact ⟨0, 0, Nat.zero_le _, rfl, rfl⟩
        case round =>
          obtain ⟨j, q, hj, rfl, rfl⟩ := hrel
          have hxl : xs.length ≤ 64 := by rw [HX.out]; exact HRI.out.buf.fine.many
          by_cases hlt : j < xs.length
          · obtain ⟨g, cap', hv, _, _, hc⟩ := row_cells HROW.out (by omega)
            simp only [Value.slice.injEq] at hv
            obtain ⟨rfl, _, rfl⟩ := hv
            have hcj : w3.cell? ⟨g, j, none⟩ = some (.int .i64 xs[j]) := by rw [hc j hlt]; simp [hlt]
            have hmem : hasI L xs[j] = true := (mem_ivs L _).1 (by rw [← HX.out]; exact List.getElem_mem _)
            have hxb : 1 ≤ xs[j] ∧ xs[j] ≤ 9223372036854775807 := by
              obtain ⟨t, ht⟩ := (hasI_iff L _).1 hmem
              exact HRI.out.buf.fine.pos _ ht
            have hlk : ∀ q, (Instr.lookup 56 (.map (some w2.heap.size)) (.int .i64 xs[j]) false).run Try.prog (w3.drewN q) = .ok (.bool true) (w3.drewN q) := fun q => by
              rw [(HM3.out.block (w' := w3.drewN q) rfl).look keyed3 Try.underlying56 (zero4 _) (keyOf_int_mk Try.underlying3 (wf_i _ (by omega) hxb.2))]
              simp only [seenG]; rw [if_pos hmem]; rfl
            by_cases hj0 : j = 0
            · subst hj0
              obtain ⟨x, hx⟩ : ∃ x, x = xs[0] := ⟨_, rfl⟩
              rw [← hx] at hcj hlk
              clear hmem hxb hx hc
              go_wp2
              go_quiet (fail)
              go_wp2
              exact ⟨⟨1, _, by omega, rfl, rfl⟩, by simp [intOf]; omega⟩
            · have hcp : w3.cell? ⟨g, j - 1, none⟩ = some (.int .i64 xs[j - 1]) := by rw [hc (j - 1) (by omega)]; simp [show j - 1 < xs.length by omega]
              have hlt2 : xs[j - 1] < xs[j] := by
                have := ivs_rise L
                rw [← HX.out] at this
                exact List.pairwise_iff_getElem.1 this (j - 1) j (by omega) hlt (by omega)
              obtain ⟨x, hx⟩ : ∃ x, x = xs[j] := ⟨_, rfl⟩
              obtain ⟨y, hy⟩ : ∃ y, y = xs[j - 1] := ⟨_, rfl⟩
              rw [← hx] at hcj hlk hlt2
              rw [← hy] at hcp hlt2
              have e1 : IntKind.i64.wrap ((j : Int) - 1) = (j : Int) - 1 := IntWalk.i64_in _ (by omega)
              have e2 : ((j : Int) - 1).toNat = j - 1 := by omega
              have e3 : 0 ≤ (j : Int) - 1 := by omega
              have e4 : (j : Int) - 1 < xs.length := by omega
              have hjp : 0 < j := by omega
              have e5 : decide (x ≤ y) = false := by simp; omega
              have e6 : decide ((0 : Int) < (j : Int)) = true := by simp; omega
              clear hmem hxb hx hy hc hj0
              go_wp2
              go_quiet (fail)
              clear e1 e2
              go_wp2
              exact ⟨⟨j + 1, _, by omega, by go_num, rfl⟩, by simp [intOf]; omega⟩
          · have hje : j = xs.length := by omega
            subst hje
            have hml : (Builtin.len_ #[56] 3 #[.map (some w2.heap.size)]).run Try.prog (w3.drewN q) = .ok (.int .i64 xs.length) (w3.drewN q) := by
              have := (HM3.out.block (w' := w3.drewN q) rfl).len keyed3 Try.underlying56 (keysOf_nodup L) (fun l => seenG_some L l) 3
              rw [keysOf_len, ← HX.out] at this; exact this
            have hsz := (HB3.out.drewN q).sizeC
            have hll : L.length = xs.length := by rw [HX.out, len_ivs_nodup L HRI.out.nd]
            rw [hll] at hsz
            have HSZ := Lib.hid hsz
            clear hsz hll
            go_wp2_with (go_at_call 26; refine HSZ.out.mono ?_; rintro e w' ⟨rfl, rfl⟩)
            go_ret
            exact ⟨rfl, (HB3.out.drewN q).below⟩
end Go.Proofs.Ytgmgofcclddkiaa
