/- The law BufferAgain walked: it answers true for every text and interval. -/
import Derived.Test.YtgmgofcclddkiaaAw2
namespace Go.Proofs.Ytgmgofcclddkiaa
open Go.RowKit Go.Maps Go.WideShapes

theorem ag1 (i : Int) (h : ¬ i < 1) (t : ByteArray) : putE 1 1 [] i t = 0 := by
  unfold putE; rw [if_neg h, hasT_eq (b := false) _ _ _ (by simp)]
  simp [hasI, ivs]
theorem ag2 (i : Int) (h : ¬ i < 1) (t u : ByteArray) (hu : u ≠ t) : putE 1 1 [(i, t)] i u = 4 := by
  unfold putE; rw [if_neg h, hasT_eq (b := false) _ _ _ (by simp [hu])]
  simp [hasI, texts]
theorem ag3 (i j : Int) (h : ¬ j < 1) (hj : i ≠ j) (t u : ByteArray) : putE 1 1 [(i, t)] j u = 4 := by
  unfold putE; rw [if_neg h, hasT_eq (b := false) _ _ _ (by simp [hj.symm])]
  simp [hasI, hj, ivs, insI]
theorem ag_take (i : Int) (t : ByteArray) : takeL [(i, t)] i = [] := by simp [takeL]
theorem ag_texts (i : Int) (t : ByteArray) : texts [(i, t)] i = [t] := by simp [texts]

theorem StrsAt.one {w : World} {g cap : Nat} {t : ByteArray} (h : w.cell? ⟨g, 0, none⟩ = some (.string t)) : StrsAt w (.slice (some ⟨g, 0, none⟩) 1 cap) [t] :=
  ⟨_, cap, rfl, fun _ => ⟨g, 0, rfl, fun j hj => by
    have : j = 0 := by simp at hj; omega
    subst this; simpa using h⟩⟩

set_option maxRecDepth 100000 in
set_option maxHeartbeats 4000000 in
theorem again_walk (t : ByteArray) (a : Int) (_ht : t.size ≤ maxLen) (ha : (Lit.int .u16 a).wf = true) (w : World) :
    Calls Try.prog 8 #[.string t, .int .u16 a] w fun e w' => e = .returned (.bool true) ∧ Below w.heap.size w w' := by
  have hab : 0 ≤ a ∧ a ≤ 65535 := by
    simp [Lit.wf, IntKind.min, IntKind.max, IntKind.bits, IntKind.signed] at ha
    omega
  have haw := awake_any w
  by_cases hl : 200 < (t.size : Int)
  · go_enter Try.func8, Try.ntmps8
    go_wp2_with (go_at_call 13; refine haw.mono ?_; rintro e w1 ⟨rfl, hb⟩)
    go_ret
    exact ⟨rfl, hb⟩
  · have HAW := Lib.hid haw
    clear haw ha
    obtain ⟨ha1, ha2⟩ := hab
    have hl2 : t.size ≤ 200 := by omega
    go_enter Try.func8, Try.ntmps8
    go_wp2_with fail
    refine HAW.out.mono ?_
    rintro e w1 ⟨rfl, hb⟩
    have HB1 := Lib.hid hb
    clear hb
    go_wp2_with fail
    refine (BufAt.new (B := w.heap.size) (w0 := w) HB1.out HB1.out.size [] (by simp) 1 1 (by decide) (by decide) (by decide) (by decide)).mono ?_
    rintro e w2 ⟨rfl, h, _, _⟩
    have H2 : Hid (BufAt w.heap.size w w2 (w1.heap.size + 1) 1 1 [] 0 []) := h
    clear h
    go_wp2_with fail
    have hlow : ¬ a + 1 < 1 := by omega
    have hlow2 : ¬ a + 1 + 1 < 1 := by omega
    have hsx : (t ++ ({ data := #[120] } : ByteArray)).size ≤ 1000 := by rw [ByteArray.size_append]; have : ({ data := #[120] } : ByteArray).size = 1 := by decide
                                                                         omega
    have hne : t ++ ({ data := #[120] } : ByteArray) ≠ t := fun e => by
      have := congrArg ByteArray.size e
      rw [ByteArray.size_append] at this
      have h1 : ({ data := #[120] } : ByteArray).size = 1 := by decide
      omega
    have HNE := Lib.hid hne
    clear hne
    refine (BufAt.put' H2.out (a + 1) (t) (by omega) (by omega) (small1 _ (by omega)) (by decide) (by decide) (by simp) (L' := [(a + 1, t)]) (dr' := 0) (ag1 _ (by omega) _) rfl rfl).mono ?_
    rintro e w3 ⟨rfl, h, hs⟩
    have H3 := Lib.hid h
    have S3 := Lib.hid hs
    clear h hs
    go_wp2_with fail
    refine (BufAt.put' H3.out (a + 1) (t ++ { data := #[120] }) (by omega) (by omega) (small1 _ hsx) (by decide) (by decide) (by simp) (L' := [(a + 1, t)]) (dr' := 1) (ag2 _ (by omega) _ _ HNE.out) rfl rfl).mono ?_
    rintro e w4 ⟨rfl, h, hs⟩
    have H4 := Lib.hid h
    have S4 := Lib.hid hs
    clear h hs
    go_wp2_with fail
    refine (BufAt.put' H4.out (a + 1 + 1) (t) (by omega) (by omega) (small1 _ (by omega)) (by decide) (by decide) (by simp) (L' := [(a + 1, t)]) (dr' := 2) (ag3 _ _ (by omega) (by omega) _ _) rfl rfl).mono ?_
    rintro e w5 ⟨rfl, h, hs⟩
    have H5 := Lib.hid h
    have S5 := Lib.hid hs
    clear h hs
    go_wp2_with fail
    refine (H5.out.take (a + 1) (by omega) (by omega) (by simp)).mono ?_
    rintro e w6 ⟨v, rfl, hrow, h, hs⟩
    rw [ag_texts] at hrow
    have hrow : w6.ownsRow w5.heap.size 9 1 v 1 [Value.string (t)] := hrow
    obtain ⟨g, cg, rfl, _, _, hc⟩ := row_cells hrow (by decide)
    rw [ag_take] at h
    have H6 : Hid (BufAt w.heap.size w w6 (w1.heap.size + 1) 1 1 [] 2 [g]) := h
    have S6 := Lib.hid hs
    have C6 : Hid (w6.cell? ⟨g, 0, none⟩ = some (.string (t))) := hc 0 (by decide)
    clear hrow h hs hc
    go_wp2_with fail
    refine (BufAt.put' H6.out (a + 1) (t ++ { data := #[120] }) (by omega) (by omega) (small1 _ hsx) (by decide) (by decide) (by simp) (L' := [(a + 1, t ++ { data := #[120] })]) (dr' := 2) (ag1 _ (by omega) _) rfl rfl).mono ?_
    rintro e w7 ⟨rfl, h, hs⟩
    have H7 := Lib.hid h
    have S7 := Lib.hid hs
    clear h hs
    go_wp2_with fail
    refine (H7.out.take (a + 1) (by omega) (by omega) (by simp)).mono ?_
    rintro e w8 ⟨v, rfl, hrow, h, hs⟩
    rw [ag_texts] at hrow
    have hrow : w8.ownsRow w7.heap.size 9 1 v 1 [Value.string (t ++ { data := #[120] })] := hrow
    obtain ⟨k, ck, rfl, _, _, hc⟩ := row_cells hrow (by decide)
    rw [ag_take] at h
    have H8 : Hid (BufAt w.heap.size w w8 (w1.heap.size + 1) 1 1 [] 2 [k, g]) := h
    have S8 := Lib.hid hs
    have C8 : Hid (w8.cell? ⟨k, 0, none⟩ = some (.string (t ++ { data := #[120] }))) := hc 0 (by decide)
    clear hrow h hs hc
    go_wp2_with fail
    refine (BufAt.put' H8.out (a + 1) (t) (by omega) (by omega) (small1 _ (by omega)) (by decide) (by decide) (by simp) (L' := [(a + 1, t)]) (dr' := 2) (ag1 _ (by omega) _) rfl rfl).mono ?_
    rintro e w9 ⟨rfl, h, hs⟩
    have H9 := Lib.hid h
    have S9 := Lib.hid hs
    clear h hs
    go_wp2_with fail
    have hgl := H9.out.ltN g (by simp)
    have hkl := H9.out.ltN k (by simp)
    have e9 : w9.cell? ⟨g, 0, none⟩ = some (.string t) := (World.cell?_of_block (w := w6) (((S9.out.2 g (by simp)).trans (S8.out.2 g (by simp))).trans (S7.out.2 g (by simp)))).trans C6.out
    have f9 : w9.cell? ⟨k, 0, none⟩ = some (.string (t ++ { data := #[120] })) := (World.cell?_of_block (w := w8) (S9.out.2 k (by simp))).trans C8.out
    have hn1 : (w9.alloc (Obj.cells #[Value.string t] 9)).cell? ⟨w9.heap.size, 0, none⟩ = some (.string t) := by rw [cell_of (MapKept.heap_alloc w9 _).1]; rfl
    have hn2 : (w9.alloc (Obj.cells #[Value.string t] 9)).cell? ⟨g, 0, none⟩ = some (.string t) := (World.cell?_of_block (w := w9) (Below.heap_alloc _ _ _ hgl)).trans e9
    have hn3 : (w9.alloc (Obj.cells #[Value.string t] 9)).cell? ⟨k, 0, none⟩ = some (.string (t ++ { data := #[120] })) := (World.cell?_of_block (w := w9) (Below.heap_alloc _ _ _ hkl)).trans f9
    have A9 := Lib.hid (H9.out.alloc (Obj.cells #[Value.string t] 9))
    have HT1 := Lib.hid (texts_yes (StrsAt.one (cap := cg) hn2) (StrsAt.one (cap := 1) hn1) (by simp))
    clear e9 f9 hn1 hn2
    have N3 := Lib.hid hn3
    clear hn3
    refine HT1.out.mono ?_
    rintro e w10 ⟨rfl, q, hq⟩
    have H10 : Hid (BufAt w.heap.size w w10 (w1.heap.size + 1) 1 1 [(a + 1, t)] 2 [w9.heap.size, k, g]) := by rw [hq]; exact A9.out.drewN q
    have N10 : Hid (w10.cell? ⟨k, 0, none⟩ = some (.string (t ++ { data := #[120] }))) := by rw [hq]; exact N3.out
    clear hq
    go_wp2_with fail
    have hkl10 := H10.out.ltN k (by simp)
    have hm1 : (w10.alloc (Obj.cells #[Value.string (t ++ { data := #[120] })] 9)).cell? ⟨w10.heap.size, 0, none⟩ = some (.string (t ++ { data := #[120] })) := by rw [cell_of (MapKept.heap_alloc w10 _).1]; rfl
    have hm2 : (w10.alloc (Obj.cells #[Value.string (t ++ { data := #[120] })] 9)).cell? ⟨k, 0, none⟩ = some (.string (t ++ { data := #[120] })) := (World.cell?_of_block (w := w10) (Below.heap_alloc _ _ _ hkl10)).trans N10.out
    have A10 := Lib.hid (H10.out.alloc (Obj.cells #[Value.string (t ++ { data := #[120] })] 9))
    have HT2 := Lib.hid (texts_yes (StrsAt.one (cap := ck) hm2) (StrsAt.one (cap := 1) hm1) (by simp))
    clear hm1 hm2
    refine HT2.out.mono ?_
    rintro e w11 ⟨rfl, q, hq⟩
    have H11 : Hid (BufAt w.heap.size w w11 (w1.heap.size + 1) 1 1 [(a + 1, t)] 2 [w10.heap.size, w9.heap.size, k, g]) := by rw [hq]; exact A10.out.drewN q
    clear hq
    go_wp2_with fail
    refine H11.out.droppedC.mono ?_
    rintro e w' ⟨rfl, rfl⟩
    go_wp2_with fail
    refine H11.out.sizeC.mono ?_
    rintro e w' ⟨rfl, rfl⟩
    have HB := Lib.hid H11.out.below
    go_wp2_with fail
    go_ret
    exact ⟨rfl, HB.out⟩
end Go.Proofs.Ytgmgofcclddkiaa
