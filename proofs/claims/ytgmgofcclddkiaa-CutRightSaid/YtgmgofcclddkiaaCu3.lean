/- cut.edges: where how many claims begin and end, rising, each place once. -/
import Derived.Test.YtgmgofcclddkiaaCu2
import Derived.Test.YtgmgofcclddkiaaCuM
import Derived.Test.YtgmgofcclddkiaaSo10
import Derived.Deep.QuietTactic
namespace Go.Proofs.Ytgmgofcclddkiaa
open Go.RowKit Go.Maps Go.WideShapes

theorem info92 : (Try.prog.info? 92).map (fun i => (i.zero, i.size, i.bytes)) = some (some (.agg #[.int .i64 0, .int .i64 0]), 2, 16) := by kernel_rfl

theorem cell_four_new (w : World) (x y z u : Value) (e : TypeId) : ∀ j v, [x, y, z, u][j]? = some v → (w.alloc (.cells #[x, y, z, u] e)).cell? ((⟨w.heap.size, 0, none⟩ : Addr).add j) = some v := by
  intro j v h
  rw [add_none, cell_of (MapKept.heap_alloc w _).1]
  rw [Nat.zero_add]
  simpa using h
theorem cell_four_at (w : World) (n : Nat) (hn : n = w.heap.size) (x y z u : Value) (e : TypeId) : ∀ j v, [x, y, z, u][j]? = some v → (w.alloc (.cells #[x, y, z, u] e)).cell? ((⟨n, 0, none⟩ : Addr).add j) = some v := by
  subst hn; exact cell_four_new w x y z u e
theorem cell_two_new (w : World) (x y : Value) (e : TypeId) : ∀ j u, [x, y][j]? = some u → (w.alloc (.cells #[x, y] e)).cell? ((⟨w.heap.size, 0, none⟩ : Addr).add j) = some u := by
  intro j u h
  rw [add_none, cell_of (MapKept.heap_alloc w _).1]
  rw [Nat.zero_add]
  simpa using h

/-- a claim that the law lets by -/
def fitC (c : Clm) : Prop := c.2.1 ≤ c.2.2 ∧ -1152921504606846976 ≤ c.2.1 ∧ c.2.2 ≤ 1152921504606846976

/-- the first loop: which edges were made -/
def Coll (w : World) (b r n : Nat) (L : List Clm) (v : Value) (wr : World) : Prop :=
  ∃ lt es cnt, MapRange Try.prog 3 wr b r n (gOf L) lt cnt ∧ wr.ownsRow w.heap.size 92 2 v es.length (flatE es) ∧ Made L lt es ∧ Below w.heap.size w wr ∧ (∀ i, lt i = true → ∃ c ∈ L, c.1 = i)

theorem row_ne_it {w : World} {base : Nat} {e : TypeId} {size : Nat} {v : Value} {m : Nat} {xs : List Value} {P : Program} {k : TypeId} {b r n : Nat} {g : Lit → Option Value} {lt : Int → Bool} {cnt : Nat}
    (h : w.ownsRow base e size v m xs) (hr : MapRange P k w b r n g lt cnt) : some r ≠ v.ownBlock := by
  obtain ⟨D, left, h1, _⟩ := hr
  exact Go.row_ne_iter h h1

/-- a range stays while a row grows -/
theorem MapRange.grown {P : Program} {k : TypeId} {w w' : World} {base : Nat} {e : TypeId} {size : Nat} {v : Value} {m : Nat} {xs : List Value} {b r n : Nat} {g : Lit → Option Value} {lt : Int → Bool} {cnt : Nat}
    (hr : MapRange P k w b r n g lt cnt) (h : w.ownsRow base e size v m xs) (hg : w.grownBy w' v.ownBlock) : MapRange P k w' b r n g lt cnt := by
  obtain ⟨_, _, h1⟩ := hr.map.isObj
  exact hr.block (hg.block b hr.map.lt (row_ne_map h h1)) (hg.block r hr.lt_size (row_ne_it h hr))
theorem MapRange.alloc {P : Program} {k : TypeId} {w : World} {b r n : Nat} {g : Lit → Option Value} {lt : Int → Bool} {cnt : Nat} (hr : MapRange P k w b r n g lt cnt) (o : Obj) : MapRange P k (w.alloc o) b r n g lt cnt :=
  hr.block (Below.heap_alloc _ _ _ hr.map.lt) (Below.heap_alloc _ _ _ hr.lt_size)

theorem coll_start {w w1 : World} {b : Nat} {L : List Clm} {cnt : Nat} (hrg : MapRange Try.prog 3 w1 b w.heap.size L.length (gOf L) (fun i => (gOf L (.int .i64 i)).isSome) cnt) (hg : w.grownBy w1 none) :
    Coll w b w.heap.size L.length L (.slice none 0 0) w1 := by
  refine ⟨_, [], cnt, hrg, World.ownsRow_nil _ _ _ _, Made.start (fun c hc => ?_), (Below.refl _ w).grown hg (Nat.le_refl _) (fun k e => by cases e), fun i hi => ?_⟩
  · exact (gOf_some _).2 ⟨c.1, List.mem_map_of_mem hc, rfl⟩
  · obtain ⟨x, hx, e⟩ := (gOf_some _).1 hi
    obtain ⟨c, hc, rfl⟩ := List.mem_map.1 hx
    exact ⟨c, hc, by simpa using e.symm⟩

theorem coll_next {w wr w5 w7 : World} {b r n : Nat} {L : List Clm} (hn : (L.map (·.1)).Nodup) {lt : Int → Bool} {es : List Edge} {cnt cnt5 : Nat} {v v' : Value} {c : Clm} (hc : c ∈ L) (hle : c.2.1 ≤ c.2.2)
    (hrow : wr.ownsRow w.heap.size 92 2 v es.length (flatE es)) (hrg : MapRange Try.prog 3 wr b r n (gOf L) lt cnt) (hmade : Made L lt es) (hb : Below w.heap.size w wr) (hin : ∀ i, lt i = true → ∃ c ∈ L, c.1 = i) (hlt : lt c.1 = true)
    (hrr : w.heap.size ≤ r) (hrg5 : MapRange Try.prog 3 w5 b r n (gOf L) (fun j => lt j && !(j == c.1)) cnt5) (hg5 : wr.grownBy w5 (some r)) (o1 o2 : Obj) (hg7 : ((w5.alloc o1).alloc o2).grownBy w7 v.ownBlock)
    (hown : w7.ownsRow w.heap.size 92 2 v' (es.length + 2) (flatE es ++ [.int .i64 c.2.1, .int .i64 1, .int .i64 (c.2.2 + 1), .int .i64 (-1)])) : Coll w b r n L v' w7 := by
  have hrow5 : w5.ownsRow w.heap.size 92 2 v es.length (flatE es) := row_keep hrow (fun j hj => hg5.block j (row_lt hrow j hj).2 (fun e => row_ne_it hrow hrg (by rw [← e]; simpa [blockOf, eq_comm] using hj)))
  have hrow6 := (hrow5.alloc o1).alloc o2
  have hb5 : Below w.heap.size w w5 := hb.grown hg5 hb.size (fun k e => by cases e; exact hrr)
  refine ⟨_, es ++ edgesOf c, cnt5, ((hrg5.alloc o1).alloc o2).grown hrow6 hg7, ?_, Made.next hn hmade hc hle hlt, ?_, fun i hi => hin i (by simp at hi; exact hi.1)⟩
  · rw [List.length_append, flatE_append]; exact hown
  · exact ((hb5.alloc hb5.size o1).alloc (by simp; have := hb5.size; omega) o2).grown hg7 (by simp; have := hb5.size; omega) (fun k e => (row_lt hrow6 k (by simp [blockOf, e])).1)

/-- the cells of edges that the call owns -/
theorem edge_cells {w : World} {base : Nat} {v : Value} {n : Nat} {xs : List Edge} (h : w.ownsRow base 92 2 v n (flatE xs)) (hn : n = xs.length) (h0 : 0 < n) :
    ∃ g cap, v = .slice (some ⟨g, 0, none⟩) n cap ∧ base ≤ g ∧ g < w.heap.size ∧ ∀ j x, xs[j]? = some x → w.cell? ⟨g, j * 2, none⟩ = some (.int .i64 x.1) ∧ w.cell? ⟨g, j * 2 + 1, none⟩ = some (.int .i64 x.2) ∧ w.frozen? ⟨g, j * 2 + 1, none⟩ = false := by
  rcases h.2 with ⟨_, rfl⟩ | ⟨g, cap, cur, rfl, hb, hg, _⟩
  · omega
  · refine ⟨g, cap, rfl, hb, (Array.getElem?_eq_some_iff.1 hg).1, fun j x hx => ?_⟩
    obtain ⟨hj, rfl⟩ := List.getElem?_eq_some_iff.1 hx
    obtain ⟨f1, f2⟩ := flatE_get xs j hj
    exact ⟨by rw [h.cellAt _ (by omega), f1], by rw [h.cellAt _ (by omega), f2], h.frozenAt _⟩

theorem flatE_set (o : List Edge) (a m x : Int) : (flatE (o ++ [(a, m)])).set (o.length * 2 + 1) (.int .i64 x) = flatE (o ++ [(a, x)]) := by
  rw [flatE_append, flatE_append, List.set_append_right _ _ (by rw [flatE_len]; omega), flatE_len]
  rw [show o.length * 2 + 1 - o.length * 2 = 1 by omega]
  rfl

theorem row_drewN {w : World} {base : Nat} {e : TypeId} {size : Nat} {v : Value} {n : Nat} {xs : List Value} (h : w.ownsRow base e size v n xs) (q : Nat) : (w.drewN q).ownsRow base e size v n xs := by
  induction q generalizing w with
  | zero => exact h
  | succ q ih => exact ih h.drew
theorem below_drewN {B : Nat} {a w : World} (h : Below B a w) (q : Nat) : Below B a (w.drewN q) := by
  induction q with
  | zero => exact h
  | succ q ih => exact ih.drew
theorem ownsRow_base {w : World} {base base' : Nat} {e : TypeId} {size : Nat} {v : Value} {n : Nat} {xs : List Value} (h : w.ownsRow base e size v n xs) (hb : base' ≤ base) : w.ownsRow base' e size v n xs := by
  obtain ⟨h1, h2⟩ := h
  refine ⟨h1, h2.imp id ?_⟩
  rintro ⟨g, cap, cur, a, b, c⟩
  exact ⟨g, cap, cur, a, by omega, c⟩

/-- the second loop: what was merged -/
def Mrg (B : Nat) (w2 : World) (ys : List Edge) (vo ix : Value) (wr : World) : Prop :=
  ∃ (k : Nat) (out : List Edge), k ≤ ys.length ∧ ix = .int .i64 k ∧ wr.ownsRow w2.heap.size 92 2 vo out.length (flatE out) ∧ Merged ys k out ∧ Below w2.heap.size w2 wr ∧ B ≤ w2.heap.size

theorem mrg_join {B : Nat} {w2 w4 : World} {ys : List Edge} (h1 : ∀ x ∈ ys, x.2 = 1 ∨ x.2 = -1) {k : Nat} (hk : k < ys.length) {o : List Edge} {a m : Int} {g cap : Nat} (hm : Merged ys k (o ++ [(a, m)])) (he : a = ys[k].1)
    (hB : B ≤ w2.heap.size) (hr : w4.ownsRow w2.heap.size 92 2 (.slice (some ⟨g, 0, none⟩) (o.length + 1) cap) (o.length + 1) (flatE (o ++ [(a, m)]))) (hb : Below w2.heap.size w2 w4) (hg : w2.heap.size ≤ g) {ix : Value} (hix : ix = .int .i64 (k + 1 : Nat)) :
    Mrg B w2 ys (.slice (some ⟨g, 0, none⟩) (o.length + 1) cap) ix (w4.setCell ⟨g, o.length * 2 + 1, none⟩ (.int .i64 (m + ys[k].2))).drew := by
  refine ⟨k + 1, o ++ [(a, m + ys[k].2)], by omega, hix, ?_, hm.join hk h1 he, (hb.setCell (p := ⟨g, _, none⟩) hg _).drew, hB⟩
  have := (hr.stored (o.length * 2 + 1) (.int .i64 (m + ys[k].2))).1
  rw [flatE_set] at this
  rw [List.length_append]
  exact this.drew

theorem mrg_push {B : Nat} {w2 w4 w5 : World} {ys : List Edge} (h1 : ∀ x ∈ ys, x.2 = 1 ∨ x.2 = -1) (hs : ys.Pairwise (fun a b => a.1 ≤ b.1)) {k : Nat} (hk : k < ys.length) {out : List Edge} (hm : Merged ys k out) (hne : ∀ o a m, out = o ++ [(a, m)] → a ≠ ys[k].1)
    (hB : B ≤ w2.heap.size) {v v' : Value} (hr : w4.ownsRow w2.heap.size 92 2 v out.length (flatE out)) (hb : Below w2.heap.size w2 w4) (ob : Obj) (hg : (w4.alloc ob).grownBy w5 v.ownBlock)
    (hown : w5.ownsRow w2.heap.size 92 2 v' (out.length + 1) (flatE out ++ [.int .i64 ys[k].1, .int .i64 ys[k].2])) {ix : Value} (hix : ix = .int .i64 (k + 1 : Nat)) : Mrg B w2 ys v' ix w5 := by
  refine ⟨k + 1, out ++ [ys[k]], by omega, hix, ?_, hm.push hk h1 hs hne, ?_, hB⟩
  · rw [List.length_append, flatE_append]; exact hown
  · exact (hb.alloc hb.size ob).grown hg (by simp; have := hb.size; omega) (fun j e => (row_lt hr j (by simp [blockOf, e])).1)

/-- what edges leaves -/
def EdgesPost (w : World) (L : List Clm) (e : Ending) (w' : World) : Prop :=
  ∃ v out, e = .returned v ∧ w'.ownsRow w.heap.size 92 2 v out.length (flatE out) ∧ Rising out ∧ (∀ p, sumTo out p = votes L p) ∧ (∀ x ∈ out, -128 ≤ x.2 ∧ x.2 ≤ 128) ∧ out.length ≤ 128 ∧ Below w.heap.size w w'

set_option maxRecDepth 100000 in
set_option maxHeartbeats 8000000 in
theorem edges_any (w : World) (b : Nat) (L : List Clm) (hm : MapIs Try.prog 3 w b L.length (gOf L)) (hn : (L.map (·.1)).Nodup) (hl : L.length ≤ 64) (hfit : ∀ c ∈ L, fitC c) :
    Calls Try.prog 41 #[.map (some b)] w (EdgesPost w L) := by
  have HM := Lib.hid hm
  have HN := Lib.hid hn
  have HF := Lib.hid hfit
  clear hm hn hfit
  obtain ⟨i0, hi, hz0, hz1, hz2⟩ := info_parts info92
  have HI := Lib.hid hi
  clear hi
  go_enter Try.func41, Try.ntmps41
  go_wp2_with (at_range; refine wpList_mrange _ rfl _ 87 rfl 3 62 keyed3 Try.underlying87 rfl HM.out ?_; intro w1 c1 hrg1 hgr1 hsz1; have HCO := Lib.hid (coll_start hrg1 hgr1); clear hrg1 hgr1 hsz1)
  go_frame
  go_loopw [3] (fun v wr => Coll w b w.heap.size L.length L v wr) (fun _ wr => wr.rangeLeft b w.heap.size)
  case atStart => exact HCO.out
  case round =>
    obtain ⟨lt, es, cnt, hrg, hrow, hmade, hb, hin⟩ := hrel
    have HRG := Lib.hid hrg
    have HRW := Lib.hid hrow
    have HMD := Lib.hid hmade
    have HB := Lib.hid hb
    have HIN := Lib.hid hin
    clear hrg hrow hmade hb hin HCO
    go_wp2_with (at_next; refine wpList_mnext _ rfl _ rfl 3 keyed3 Try.underlying3 rfl HRG.out ?_ ?_)
    · intro hlt
      have hme := met_all (L := L) hlt
      have hel : es.length = 2 * L.length := by rw [HMD.out.len, hme]
      have hsm : ∀ p, sumTo es p = votes L p := fun p => by rw [HMD.out.sum, hme]
      have hone := HMD.out.one
      have HSM := Lib.hid hsm
      have hso := Lib.hid (sortfunc_own wr w.heap.size _ es HRW.out (by omega))
      clear hme hsm HMD HIN hlt
      go_wp2_with fail
      refine hso.out.mono ?_
      rintro e w2 ⟨rfl, ys, hperm, hsort, hrow2, hg2⟩
      have hb2 : Below w.heap.size w w2 := HB.out.grown hg2 HB.out.size (fun k e => (row_lt HRW.out k (by simp [blockOf, e])).1)
      have hyl : ys.length = es.length := hperm.length_eq
      have h1 : ∀ x ∈ ys, x.2 = 1 ∨ x.2 = -1 := fun x hx => hone x (hperm.mem_iff.1 hx)
      have hsy : ∀ p, sumTo ys p = votes L p := fun p => by rw [sumTo_perm hperm, HSM.out]
      have hl2 : ys.length ≤ 128 := by omega
      rw [← hyl] at hrow2
      obtain ⟨av, cv, rfl⟩ := row_form hrow2
      have HR2 := Lib.hid hrow2
      have HB2 := Lib.hid hb2
      have HSO := Lib.hid hsort
      have H1 := Lib.hid h1
      have HSY := Lib.hid hsy
      clear hrow2 hb2 hsort h1 hsy hyl hg2 hperm hone HSM HRW HRG HB hso hel
      go_wp2_with fail
      go_loopw [6, 32] (fun vo ix wr => Mrg w.heap.size w2 ys vo ix wr) (fun _ ix _ => ys.length - (RowKit.intOf ix).toNat)
      case atStart => exact ⟨0, [], Nat.zero_le _, rfl, World.ownsRow_nil _ _ _ _, Merged.start ys, Below.refl _ _, HB2.out.size⟩
      case round =>
        obtain ⟨k, out, hk, rfl, hro, hmg, hbl, hBB⟩ := hrel
        have HRO := Lib.hid hro
        have HMG := Lib.hid hmg
        have HBL := Lib.hid hbl
        obtain ⟨ao, co, rfl⟩ := row_form hro
        have hol : out.length ≤ k := hmg.len
        clear hro hmg hbl
        by_cases hlt : k < ys.length
        · obtain ⟨g, gc, hgv, hgb, hgs, hcl⟩ := edge_cells HR2.out rfl (by omega)
          cases hgv
          obtain ⟨c0, c1, _⟩ := hcl k ys[k] (List.getElem?_eq_getElem hlt)
          rw [← HBL.out.cell (p := ⟨g, _, none⟩) hgs] at c0 c1
          have hx1 := H1.out ys[k] (List.getElem_mem hlt)
          obtain ⟨x1, hx1e⟩ : ∃ x1, x1 = ys[k].1 := ⟨_, rfl⟩
          obtain ⟨x2, hx2e⟩ : ∃ x2, x2 = ys[k].2 := ⟨_, rfl⟩
          rw [← hx1e] at c0
          rw [← hx2e] at c1 hx1
          have HX1 := Lib.hid hx1e
          have HX2 := Lib.hid hx2e
          have hwz := HBL.out.size
          have hxb : -1 ≤ x2 ∧ x2 ≤ 1 := by omega
          clear hcl hx1e hx2e hx1
          obtain ⟨hxb1, hxb2⟩ := hxb
          have hmx : out.length + 1 ≤ maxLen := by unfold maxLen; omega
          have PUSH : Hid (∀ (w4 w5 : World) (v' ix : Value) (ob : Obj), w4.ownsRow w2.heap.size 92 2 (.slice ao out.length co) out.length (flatE out) → Below w2.heap.size w2 w4 → (∀ o a m, out = o ++ [(a, m)] → a ≠ x1) → (w4.alloc ob).grownBy w5 (Value.slice ao out.length co).ownBlock →
              w5.ownsRow w2.heap.size 92 2 v' (out.length + 1) (flatE out ++ [.int .i64 x1, .int .i64 x2]) → ix = .int .i64 (k + 1 : Nat) → Mrg w.heap.size w2 ys v' ix w5) := by
            intro w4 w5 v' ix ob r1 r2 r3 r4 r5 r6
            rw [HX1.out] at r3 r5
            rw [HX2.out] at r5
            exact mrg_push H1.out HSO.out hlt HMG.out r3 hBB r1 r2 ob r4 r5 r6
          have hbx : ((wr.alloc (.cells #[.int .i64 x1, .int .i64 x2] 92)).cell? ⟨wr.heap.size, 0, none⟩ = some (.int .i64 x1)) ∧ ((wr.alloc (.cells #[.int .i64 x1, .int .i64 x2] 92)).cell? ⟨wr.heap.size, 1, none⟩ = some (.int .i64 x2)) := by
            constructor <;> (rw [cell_of (MapKept.heap_alloc wr _).1]; rfl)
          have HRA := Lib.hid (HRO.out.alloc (.cells #[.int .i64 x1, .int .i64 x2] 92))
          have HBA := Lib.hid (HBL.out.alloc HBL.out.size (.cells #[.int .i64 x1, .int .i64 x2] 92))
          rcases List.eq_nil_or_concat out with hnil | ⟨o, lst, ho⟩
          · have hz : out.length = 0 := by rw [hnil]; rfl
            have hne : ∀ o a m, out = o ++ [(a, m)] → a ≠ x1 := fun o a m e => by rw [hnil] at e; simp at e
            have HNE := Lib.hid hne
            obtain ⟨b0, b1⟩ := hbx
            rw [hz] at HRA PUSH hmx ⊢
            clear hne hnil hz hol
            go_wp2_with fail
            generalize wr.alloc (.cells #[.int .i64 x1, .int .i64 x2] 92) = w3 at HRA HBA b0 b1 ⊢
            go_big_region
            have e0 : w3.drew.cell? ⟨wr.heap.size, 0, none⟩ = some (.int .i64 x1) := by rw [World.cell?_drew]; exact b0
            have e1 : w3.drew.cell? ⟨wr.heap.size, 1, none⟩ = some (.int .i64 x2) := by rw [World.cell?_drew]; exact b1
            have HRD := Lib.hid HRA.out.drew
            have HBD := Lib.hid HBA.out.drew
            clear HRA HBA b0 b1
            generalize w3.drew = w4 at HRD HBD e0 e1 ⊢
            have hz4 : w2.heap.size ≤ w4.heap.size + 1 := by have := HBD.out.size; omega
            go_wp2_with (at_builtin; refine wpList_append_own_at _ rfl _ _ 89 rfl w2.heap.size 92 i0 (.agg #[.int .i64 0, .int .i64 0]) 2 16 Try.underlying89 HI.out hz0 hz1 hz2 rfl (by decide) _ _ _ rfl (HRD.out.alloc _) _ 1 1 [.int .i64 x1, .int .i64 x2] rfl rfl (cell_two_new _ _ _ _) (fun u hu => by simp at hu; rcases hu with rfl | rfl <;> rfl) hmx (by omega) (by simp; omega) ?_; intro v' w5 hown' hgrow _ hloc; have HOWN := Lib.hid hown'; have HGR := Lib.hid hgrow; clear hown' hgrow hloc)
            go_roundw
            case rel => exact PUSH.out _ _ _ _ _ HRD.out HBD.out HNE.out HGR.out HOWN.out (by go_num)
            case measure => simp [RowKit.intOf]; omega
          · obtain ⟨a, m⟩ := lst
            have ho' : out = o ++ [(a, m)] := by rw [ho]; simp
            have hlen : out.length = o.length + 1 := by rw [ho']; simp
            have hmb := HMG.out.small (a, m) (by rw [ho']; simp)
            obtain ⟨g2, gc2, hgv2, hgb2, hgs2, hcl2⟩ := edge_cells HRA.out rfl (by omega)
            cases hgv2
            obtain ⟨f0, f1, f2⟩ := hcl2 o.length (a, m) (by rw [ho']; simp)
            have HRA2 : Hid ((wr.alloc (.cells #[.int .i64 x1, .int .i64 x2] 92)).ownsRow w2.heap.size 92 2 (.slice (some ⟨g2, 0, none⟩) (o.length + 1) co) (o.length + 1) (flatE (o ++ [(a, m)]))) := by
              have := HRA.out; rw [hlen, ho'] at this; exact this
            have HO := Lib.hid ho'
            have HLN := Lib.hid hlen
            rw [hlen]
            simp only at f0 f1 hmb
            have hol2 : o.length + 1 ≤ k := by omega
            obtain ⟨hm1, hm2⟩ := hmb
            rw [hlen] at hmx
            clear hcl2 ho ho' hlen hgs2 HRA hol
            obtain ⟨ol, hole⟩ : ∃ ol, ol = o.length := ⟨_, rfl⟩
            rw [← hole] at f0 f1 f2 hol2 hmx ⊢
            have HOL := Lib.hid hole
            have hd1 : decide ((ol : Int) + 1 > 0) = true := decide_eq_true (by omega)
            have i1 : ((ol : Int)).toNat = ol := by omega
            have i2 : (ol : Int) < (ol : Int) + 1 := by omega
            have i3 : IntKind.i64.wrap (ol : Int) = (ol : Int) := by rw [IntKind.wrap_i64]; omega
            have i4 : (ol : Int) + 1 - 1 = (ol : Int) := by omega
            obtain ⟨b0, b1⟩ := hbx
            have HRB : Hid (o.length = ol) := hole.symm
            clear hole
            by_cases hax : a = x1
            · have hax1 : (a == x1) = true := by simpa using hax
              have HAX := Lib.hid hax
              clear hax
              go_wp2_with fail
              generalize wr.alloc (.cells #[.int .i64 x1, .int .i64 x2] 92) = w3 at HRA2 HBA b0 b1 f0 f1 f2 ⊢
              go_quiet (fail)
              have e0 : (w3.drewN nq).cell? ⟨wr.heap.size, 0, none⟩ = some (.int .i64 x1) := by rw [World.cell?_drewN]; exact b0
              have e1 : (w3.drewN nq).cell? ⟨wr.heap.size, 1, none⟩ = some (.int .i64 x2) := by rw [World.cell?_drewN]; exact b1
              have f4 : (w3.drewN nq).cell? ⟨g2, ol * 2 + 1, none⟩ = some (.int .i64 m) := by rw [World.cell?_drewN]; exact f1
              have f5 : (w3.drewN nq).frozen? ⟨g2, ol * 2 + 1, none⟩ = false := by rw [World.frozen?_drewN]; exact f2
              have HRD := Lib.hid (row_drewN HRA2.out nq)
              have HBD := Lib.hid (below_drewN HBA.out nq)
              clear HRA2 HBA b0 b1 f0 f1 f2
              generalize w3.drewN nq = w4 at HRD HBD e0 e1 f4 f5 ⊢
              clear nq
              have i5 : m + x2 ≤ 9223372036854775807 := by omega
              have i6 : -9223372036854775808 ≤ m + x2 := by omega
              go_wp2_with fail
              go_big_region
              go_wp2
              go_roundw
              case rel =>
                have hh := mrg_join (o := o) (a := a) (m := m) H1.out hlt (by rw [← HO.out]; exact HMG.out) (HAX.out.trans HX1.out) hBB HRD.out HBD.out hgb2 (ix := .int .i64 ((k : Int) + 1)) (by go_num)
                rw [← HX2.out, HRB.out] at hh
                exact hh
              case measure => simp [RowKit.intOf]; omega
            · have hax1 : (a == x1) = false := by simpa using hax
              have hne : ∀ o' a' m', out = o' ++ [(a', m')] → a' ≠ x1 := fun o' a' m' e => by
                rw [HO.out] at e
                have := List.append_inj_right' e rfl
                simp at this
                rw [← this.1]; exact hax
              have HNE := Lib.hid hne
              clear hax hne
              go_wp2_with fail
              generalize wr.alloc (.cells #[.int .i64 x1, .int .i64 x2] 92) = w3 at HRA2 HBA b0 b1 f0 f1 f2 ⊢
              go_quiet (fail)
              have e0 : (w3.drewN nq).cell? ⟨wr.heap.size, 0, none⟩ = some (.int .i64 x1) := by rw [World.cell?_drewN]; exact b0
              have e1 : (w3.drewN nq).cell? ⟨wr.heap.size, 1, none⟩ = some (.int .i64 x2) := by rw [World.cell?_drewN]; exact b1
              have HRD0 := row_drewN HRA2.out nq
              rw [HRB.out] at HRD0
              have HRD := Lib.hid HRD0
              have HBD := Lib.hid (below_drewN HBA.out nq)
              clear HRA2 HBA b0 b1 f0 f1 f2 HRD0
              generalize w3.drewN nq = w4 at HRD HBD e0 e1 ⊢
              clear nq
              have hz4 : w2.heap.size ≤ w4.heap.size + 1 := by have := HBD.out.size; omega
              rw [HO.out, List.length_append] at PUSH
              go_wp2_with (at_builtin; refine wpList_append_own_at _ rfl _ _ 89 rfl w2.heap.size 92 i0 (.agg #[.int .i64 0, .int .i64 0]) 2 16 Try.underlying89 HI.out hz0 hz1 hz2 rfl (by decide) _ _ _ rfl (HRD.out.alloc _) _ 1 1 [.int .i64 x1, .int .i64 x2] rfl rfl (cell_two_new _ _ _ _) (fun u hu => by simp at hu; rcases hu with rfl | rfl <;> rfl) hmx (by omega) (by simp; omega) ?_; intro v' w5 hown' hgrow _ hloc; have HOWN := Lib.hid hown'; have HGR := Lib.hid hgrow; clear hown' hgrow hloc)
              go_roundw
              case rel =>
                have hp := PUSH.out
                rw [HRB.out] at hp
                have hn := HNE.out
                rw [HO.out] at hn
                exact hp _ _ _ _ _ HRD.out HBD.out hn HGR.out HOWN.out (by go_num)
              case measure => simp [RowKit.intOf]; omega
        · obtain rfl : k = ys.length := by omega
          have hsum := HMG.out.sum
          rw [List.take_length] at hsum
          have hfin : EdgesPost w L (.returned (.slice ao out.length co)) wr :=
            ⟨_, out, rfl, ownsRow_base HRO.out hBB, HMG.out.rise, fun p => by rw [hsum p, HSY.out], fun x hx => by have := HMG.out.small x hx; omega, by omega, HB2.out.trans (HBL.out.mono hBB)⟩
          have HFIN := Lib.hid hfin
          clear hfin hsum
          go_wp2
          go_ret
          exact HFIN.out
    · intro x c w5 cnt5 hwf hltx hc hrg5 hcl hg5 hsz5 hen
      obtain ⟨cl, hcL, rfl, rfl⟩ := gOf_of hc
      have hfc := HF.out cl hcL
      have HRG5 := Lib.hid hrg5
      have HG5 := Lib.hid hg5
      have HLX := Lib.hid hltx
      have HCL := Lib.hid hcL
      have hbase : w.heap.size ≤ w5.heap.size + 2 := by have := HB.out.size; omega
      have HSZ := Lib.hid hsz5
      have HCN := Lib.hid hcl
      have hrow5 : w5.ownsRow w.heap.size 92 2 _ es.length (flatE es) := row_keep HRW.out (fun j hj => hg5.block j (row_lt HRW.out j hj).2 (fun e => row_ne_it HRW.out HRG.out (by rw [← e]; simpa [blockOf, eq_comm] using hj)))
      have HR5 := Lib.hid hrow5
      have hel : es.length ≤ 128 := by rw [HMD.out.len]; have := met_length_le L lt; omega
      have hmx : es.length + 2 ≤ maxLen := by unfold maxLen; omega
      obtain ⟨hf1, hf2, hf3⟩ := hfc
      unfold aggC at hen
      clear hc hrg5 hg5 hltx hwf hcL hrow5 hsz5 hcl
      go_wp2_with (at_builtin; refine wpList_append_own_at _ rfl _ _ 89 rfl w.heap.size 92 i0 (.agg #[.int .i64 0, .int .i64 0]) 2 16 Try.underlying89 HI.out hz0 hz1 hz2 rfl (by decide) _ _ _ rfl ((HR5.out.alloc _).alloc _) _ 2 2 [.int .i64 cl.2.1, .int .i64 1, .int .i64 (cl.2.2 + 1), .int .i64 (-1)] rfl rfl (cell_four_at _ _ (by simp) _ _ _ _ _) (fun u hu => by simp at hu; rcases hu with rfl | rfl | rfl | rfl <;> rfl) hmx (by omega) (by simp; omega) ?_; intro v' w7 hown' hgrow _ hloc; have HOWN := Lib.hid hown'; have HGR := Lib.hid hgrow; clear hown' hgrow hloc)
      go_roundw
      case rel => exact coll_next HN.out HCL.out hf1 HRW.out HRG.out HMD.out HB.out HIN.out HLX.out (Nat.le_refl _) HRG5.out HG5.out _ _ HGR.out HOWN.out
      case measure =>
        have h7 := ((HRG5.out.alloc _).alloc _).grown ((HR5.out.alloc _).alloc _) HGR.out
        rw [h7.left_eq, HRG.out.left_eq]; exact HCN.out
end Go.Proofs.Ytgmgofcclddkiaa
