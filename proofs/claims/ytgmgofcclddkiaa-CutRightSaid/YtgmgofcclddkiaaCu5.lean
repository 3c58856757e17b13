/- cut.True: whose claims have what is agreed on, rising. -/
import Derived.Test.YtgmgofcclddkiaaCu4
import Derived.Test.YtgmgofcclddkiaaIter
import Derived.Test.YtgmgofcclddkiaaKey
import Derived.TacticsInMore
import Derived.OwnWalkIn
namespace Go.Proofs.Ytgmgofcclddkiaa
open Go.RowKit Go.Maps Go.WideShapes Go.Sort Go.Shelf

theorem sortsA (m : Nat) : AnyZI.SortsIn Try.prog Try.sortedA_ren Fence.wide m :=
  ⟨fun blk off cap ss W hH hblk hsz => callsIn_wide.2 (AnyM.slices_Sort_int Try.sortA blk off cap ss W hH hblk hsz),
   fun p cap W => callsIn_wide.2 (AnyM.slices_Sort_int_none Try.sortA p cap W)⟩

theorem MapIs.keys_perm {w : World} {b n : Nat} {L : List Clm} (h : MapIs Try.prog 3 w b n (gOf L)) (hn : (L.map (·.1)).Nodup) : ∃ D, w.ownsMap Try.prog 3 rv b L.length D ∧ Maps.size D = L.length ∧ (L.map (·.1)).Perm (intKeys D) := by
  have hnd : ((L.map (·.1)).map (Lit.int .i64 ·)).Nodup := List.pairwise_map.2 (hn.imp (fun h e => h (by simpa using e)))
  obtain ⟨D, ho, hD, hs⟩ := h.count keyed3 (ks := (L.map (·.1)).map (Lit.int .i64 ·)) hnd (fun l => by
    rw [gOf_some l, List.mem_map]
    constructor
    · rintro ⟨x, hx, rfl⟩; exact ⟨x, hx, rfl⟩
    · rintro ⟨x, hx, rfl⟩; exact ⟨x, hx, rfl⟩)
  rw [List.length_map, List.length_map] at ho hs
  refine ⟨D, ho, hs, ?_⟩
  have ht := ho.tidy keyed3
  have hent : ∀ es, D = .map es → ∀ p ∈ es, ∃ x, p.1 = .int .i64 x := by
    intro E hE p hp
    obtain ⟨es, clock, hb, F, _, hD'⟩ := ho
    rw [hE] at hD'
    simp only [DataW.map.injEq] at hD'
    have hp' : p ∈ (es.toList.map (WideElems.rg Try.prog 3 rv)) := by
      rw [← (sorted_perm (es.toList.map (WideElems.rg Try.prog 3 rv))).mem_iff, ← hD']; exact hp
    obtain ⟨x, hx, rfl⟩ := List.mem_map.1 hp'
    obtain ⟨y, hy⟩ := F.reads x hx
    rw [WideElems.rg_of hy]
    obtain ⟨a, _, ha, _⟩ := keyOf_i64 Try.underlying3 (WideElems.rd_key hy)
    exact ⟨a, ha⟩
  obtain ⟨E, rfl, hE⟩ := ht
  refine perm_intKeys hE (hent E rfl) hn (fun x => ?_)
  rw [holds_has hD, gOf_some]
  constructor
  · intro hx; exact ⟨x, hx, rfl⟩
  · rintro ⟨y, hy, e⟩
    have : x = y := by simpa using e
    rw [this]; exact hy

/-- what Sorted(Keys(m)) leaves -/
def IdsPost (w : World) (L : List Clm) (e : Ending) (w' : World) : Prop :=
  ∃ (v : Value) (ids : List Int), e = .returned v ∧ ids.Perm (L.map (·.1)) ∧ ids.Pairwise (· < ·) ∧ w'.ownsRow w.heap.size 3 1 v ids.length (ids.map (Value.int .i64)) ∧ Below w.heap.size w w'

theorem keys_a (mb : Option Nat) (W : World) : Calls Try.prog 42 #[.map mb] W fun e w' => e = .returned (.func (.func 49) #[] #[.pointer (some ⟨W.heap.size, 0, none⟩)]) ∧ w' = W.alloc (.cells #[.map mb] 87) :=
  (callsIn_wide (n := 6)).1 (AnyZI.keys_in Try.keysC Fence.wide 6 trivial rfl mb W)

theorem sorted_rise {l : List Int} (h : l.Nodup) : (l.mergeSort (fun x y => decide (x ≤ y))).Pairwise (· < ·) := by
  have h1 := List.pairwise_mergeSort (le := fun x y : Int => decide (x ≤ y)) (fun a b c hab hbc => by simp only [decide_eq_true_eq] at *; omega) (fun a b => by simp only [Bool.or_eq_true, decide_eq_true_eq]; omega) l
  have h2 : (l.mergeSort (fun x y => decide (x ≤ y))).Nodup := (List.mergeSort_perm l _).nodup_iff.2 h
  refine (h1.and h2).imp ?_
  rintro a b ⟨h, hne⟩
  simp only [decide_eq_true_eq] at h
  omega

theorem sorted_a {w : World} {b n : Nat} {L : List Clm} (h : MapIs Try.prog 3 w b n (gOf L)) (hn : (L.map (·.1)).Nodup) (hl : L.length ≤ 64) :
    Calls Try.prog 34 #[.func (.func 49) #[] #[.pointer (some ⟨w.heap.size, 0, none⟩)]] (w.alloc (.cells #[.map (some b)] 87)) (IdsPost w L) := by
  obtain ⟨D0, hown, hs0, hp0⟩ := h.keys_perm hn
  have hbl := hown.lt
  have hseq : SeqGives Fence.wide 2 Try.prog 49 #[.pointer (some ⟨w.heap.size, 0, none⟩)] encZ (fun ss => ss.Perm (intKeys D0)) (Maps.size D0) (w.alloc (.cells #[.map (some b)] 87)) :=
    AnyZI.keys_gives (ρ := Try.keysC_ren) { Try.keysC with } Fence.wide _ trivial rfl (by omega) w.heap.size b L.length D0 _ (by simp) (by simp) (by
      obtain ⟨es, clock, hb, Ft, hs, hD⟩ := hown
      exact ⟨es, clock, (Below.heap_alloc _ _ b hbl).trans hb, Ft, hs, hD⟩)
  have cS := AnyZI.sorted_in Try.sortedA Fence.wide 5 trivial trivial trivial trivial rfl (by omega) (sortsA _) (enters_of Try.func44 (by kernel_rfl) rfl) 49 #[.pointer (some ⟨w.heap.size, 0, none⟩)] trivial (enters_of Try.func49 (by kernel_rfl) rfl) _ _ (by rw [hs0]; unfold maxLen; omega) (by rw [hs0]; omega) _ hseq
  change CallsIn _ _ Try.prog 34 _ _ _ at cS
  refine ((callsIn_wide).1 cS).mono ?_
  rintro e w' ⟨v, ss, rfl, hS, hrow, hnil, hb⟩
  have hpp : ss.Perm (L.map (·.1)) := hS.trans hp0.symm
  have hnd : ss.Nodup := hpp.nodup_iff.2 hn
  refine ⟨v, ss.mergeSort (fun x y => decide (x ≤ y)), rfl, (List.mergeSort_perm ss _).trans hpp, sorted_rise hnd, ?_, ?_⟩
  · rw [(List.mergeSort_perm ss _).length_eq]
    exact ownsRow_base hrow (by simp)
  · exact ((Below.refl _ w).alloc (Nat.le_refl _) _).trans (hb.mono (by simp))
theorem below_push {w2 w4 w5 : World} {v : Value} {e : TypeId} {size n : Nat} {xs : List Value} {ob : Obj} (hb : RowKit.Below w2.heap.size w2 w4) (hr : w4.ownsRow w2.heap.size e size v n xs) (hg : (w4.alloc ob).grownBy w5 v.ownBlock) : RowKit.Below w2.heap.size w2 w5 :=
  (hb.alloc hb.size ob).grown hg (by simp; have := hb.size; omega) (fun j e => (row_lt hr j (by simp [blockOf, e])).1)
theorem cell_one_at (w : World) (n : Nat) (hn : n = w.heap.size) (x : Value) (e : TypeId) : ∀ j v, [x][j]? = some v → (w.alloc (.cells #[x] e)).cell? ((⟨n, 0, none⟩ : Addr).add j) = some v := by
  subst hn
  intro j u h
  rw [add_none, cell_of (MapKept.heap_alloc w _).1]
  rw [Nat.zero_add]
  simpa using h

/-- has a claim all of a stretch? -/
def inC (l h : Int) (c : Clm) : Bool := decide (c.2.1 ≤ l) && decide (h ≤ c.2.2)
/-- what is agreed on -/
def Good (cs : List Clm) (l h v : Int) : Prop := cs.any (fun c => !mayB c) = false ∧ cs.length ≤ 64 ∧ AgreeIs (lastOf cs) l h v ∧ (lastOf cs).length < 2 * v
/-- whose claims have it -/
def TrueRes (cs : List Clm) (ids : List Int) : Prop :=
  ids.Pairwise (· < ·) ∧ ((∀ l h v, ¬ Good cs l h v) → ids = []) ∧ (∀ l h v, Good cs l h v → ids.Perm (((lastOf cs).filter (inC l h)).map (·.1)))
def TruePost (w : World) (cs : List Clm) (e : Ending) (w' : World) : Prop :=
  ∃ (v : Value) (ids : List Int), e = .returned v ∧ w'.ownsRow w.heap.size 3 1 v ids.length (ids.map (Value.int .i64)) ∧ TrueRes cs ids ∧ Below w.heap.size w w'

/-- the test, by the server -/
def pOf (L : List Clm) (l h : Int) (i : Int) : Bool := match L.find? (fun c => c.1 == i) with | some c => inC l h c | none => false
theorem pOf_mem {L : List Clm} (hn : (L.map (·.1)).Nodup) (l h : Int) {c : Clm} (hc : c ∈ L) : pOf L l h c.1 = inC l h c := by
  have := gOf_get hn hc
  rw [gOf_int] at this
  obtain ⟨d, hd, he⟩ := Option.map_eq_some_iff.1 this
  unfold pOf
  rw [hd]
  have : d = c := by
    obtain ⟨a, b, e⟩ := c
    obtain ⟨a', b', e'⟩ := d
    simp only [aggC, Value.agg.injEq, Array.mk.injEq, List.cons.injEq, Value.int.injEq, true_and, and_true] at he
    obtain ⟨rfl, rfl, rfl⟩ := he
    rfl
  rw [this]
theorem filter_ids {L : List Clm} (hn : (L.map (·.1)).Nodup) (l h : Int) {ids : List Int} (hp : ids.Perm (L.map (·.1))) : (ids.filter (pOf L l h)).Perm ((L.filter (inC l h)).map (·.1)) := by
  refine (hp.filter _).trans ?_
  rw [List.filter_map]
  have : L.filter (pOf L l h ∘ (·.1)) = L.filter (inC l h) := List.filter_congr (fun c hc => pOf_mem hn l h hc)
  rw [this]

theorem good_unique {cs : List Clm} {l h v l' h' v' : Int} (a : Good cs l h v) (b : Good cs l' h' v') : l = l' ∧ h = h' ∧ v = v' := by
  obtain ⟨e, f⟩ := a.2.2.1.unique b.2.2.1
  have := f (by have := a.2.2.2; omega)
  exact ⟨this.1, this.2, e⟩

theorem info3 : (Try.prog.info? 3).map (fun i => (i.zero, i.size, i.bytes)) = some (some (.int .i64 0), 1, 8) := by kernel_rfl

theorem true_none {w : World} {cs : List Clm} (h : ∀ l h v, ¬ Good cs l h v) {w' : World} (hb : Below w.heap.size w w') : TruePost w cs (.returned (.slice none 0 0)) w' :=
  ⟨_, [], rfl, World.ownsRow_nil _ _ _ _, ⟨List.Pairwise.nil, fun _ => rfl, fun l h' v g => absurd g (h l h' v)⟩, hb⟩

theorem take_filter_succ (p : Int → Bool) (ids : List Int) (k : Nat) (hk : k < ids.length) : (ids.take (k + 1)).filter p = (ids.take k).filter p ++ (if p ids[k] then [ids[k]] else []) := by
  rw [List.take_succ_eq_append_getElem hk, List.filter_append, List.filter_cons]; rfl

set_option maxRecDepth 100000 in
set_option maxHeartbeats 8000000 in
theorem true_any (w : World) (v : Value) (cs : List Clm) (hc : ClmsAt w v cs) (hok : ∀ c ∈ cs, okC c) : Calls Try.prog 32 #[v] w (TruePost w cs) := by
  obtain ⟨a, cap, rfl, _⟩ := hc.cells
  have hag := Lib.hid (agree_any w _ cs hc hok)
  have HC := Lib.hid hc
  have HOK := Lib.hid hok
  clear hc hok
  obtain ⟨i0, hi, hz0, hz1, hz2⟩ := info_parts info3
  have HI := Lib.hid hi
  clear hi
  go_enter Try.func32, Try.ntmps32
  go_wp2_with fail
  refine hag.out.mono ?_
  rintro e w1 ⟨hres, hb⟩
  have HB := Lib.hid hb
  clear hb hag
  rcases hres with ⟨hA, rfl⟩ | ⟨hA, hl, rfl⟩ | ⟨hA, hl, l, h, vv, hI, ⟨h2, rfl⟩ | ⟨h2, rfl⟩⟩
  · have HN := Lib.hid (true_none (w := w) (cs := cs) (fun l h v g => by have := g.1; rw [hA] at this; cases this) HB.out)
    unfold retA
    clear hA
    go_wp2_with fail
    go_ret
    exact HN.out
  · have HN := Lib.hid (true_none (w := w) (cs := cs) (fun l h v g => by have := g.2.1; omega) HB.out)
    unfold retA
    clear hA hl
    go_wp2_with fail
    go_ret
    exact HN.out
  · have HN := Lib.hid (true_none (w := w) (cs := cs) (fun l' h' v' g => by
      have := (hI.unique g.2.2.1).1; have := g.2.2.2; omega) HB.out)
    unfold retA
    clear hA hl hI h2
    go_wp2_with fail
    go_ret
    exact HN.out
  · have hgood : Good cs l h vv := ⟨hA, hl, hI, h2⟩
    have HG := Lib.hid hgood
    have hL := length_lastOf cs
    have HND := Lib.hid (lastOf_nodup cs)
    have HLO := Lib.hid (fun c (hc : c ∈ lastOf cs) => HOK.out c (mem_lastOf hc))
    unfold retA
    obtain ⟨L, hLe⟩ : ∃ L, L = lastOf cs := ⟨_, rfl⟩
    have HLE := Lib.hid hLe
    rw [← hLe] at hL HND HLO
    clear hA hI h2 hgood hLe
    go_wp2_with fail
    refine (last_any w1 _ cs (HC.out.keep HB.out) hl HOK.out).mono ?_
    rintro e w2 ⟨b, rfl, hbb, hm, hb2⟩
    rw [← HLE.out] at hm
    have HM := Lib.hid hm
    have HB2 := Lib.hid (HB.out.trans (hb2.mono HB.out.size))
    clear hm hb2 hbb HC HB
    go_wp2_with fail
    refine (keys_a _ _).mono ?_
    rintro e w3 ⟨rfl, rfl⟩
    have hso := Lib.hid (sorted_a HM.out HND.out (by omega))
    go_wp2_with fail
    refine hso.out.mono ?_
    rintro e w4 ⟨vi, ids, rfl, hperm, hrise, hrow, hb4⟩
    have hz2' := HB2.out.size
    have hil : ids.length ≤ 64 := by rw [hperm.length_eq, List.length_map]; omega
    have HP := Lib.hid hperm
    have HRI := Lib.hid hrise
    have HR := Lib.hid hrow
    have HM4 := Lib.hid (HM.out.block (hb4.block b HM.out.lt))
    have HB4 := Lib.hid (HB2.out.trans (hb4.mono hz2'))
    obtain ⟨ai, ci, rfl⟩ := row_form hrow
    clear hperm hrise hrow hb4 HM HB2 hso
    go_wp2_with fail
    go_loopw [8, 27] (fun vo ix wr => ∃ k : Nat, k ≤ ids.length ∧ ix = .int .i64 k ∧ Hid (wr.ownsRow w4.heap.size 3 1 vo ((ids.take k).filter (pOf L l h)).length (((ids.take k).filter (pOf L l h)).map (Value.int .i64))) ∧ Hid (Below w4.heap.size w4 wr)) (fun _ ix _ => ids.length - (RowKit.intOf ix).toNat)
    case atStart => exact ⟨0, Nat.zero_le _, rfl, World.ownsRow_nil _ _ _ _, Below.refl _ _⟩
    case round =>
      obtain ⟨k, hk, rfl, HRO, HBL⟩ := hrel
      by_cases hlt : k < ids.length
      · obtain ⟨g, gc, hgv, hgb, hgs, hcl⟩ := row_cells HR.out (by omega)
        cases hgv
        have c0 := hcl k (by omega)
        rw [List.getElem?_map, List.getElem?_eq_getElem hlt] at c0
        simp only [Option.map_some] at c0
        rw [← HBL.out.cell (p := ⟨g, _, none⟩) hgs] at c0
        have hmem := HP.out.mem_iff.1 (List.getElem_mem hlt)
        have hst := take_filter_succ (pOf L l h) ids k hlt
        obtain ⟨i, hie⟩ : ∃ i, i = ids[k] := ⟨_, rfl⟩
        rw [← hie] at c0 hmem hst
        obtain ⟨c, hcL, rfl⟩ := List.mem_map.1 hmem
        rw [pOf_mem HND.out l h hcL] at hst
        have hokc := HLO.out c hcL
        have hgc := gOf_get HND.out hcL
        have HM5 := Lib.hid (HM4.out.block (HBL.out.block b HM4.out.lt))
        have hlk0 := HM5.out.look keyed3 Try.underlying87 (Try.zeroValue62 wr) (keyOf_int_mk (a := c.1) Try.underlying3 (by simp [Lit.wf, IntKind.min, IntKind.max, IntKind.bits, IntKind.signed]; have := hokc.1; omega))
        rw [hgc] at hlk0
        have hlk : (Instr.lookup 87 (.map (some b)) (.int .i64 c.1) false).run Try.prog wr = .ok (.agg #[.int .i64 c.1, .int .i64 c.2.1, .int .i64 c.2.2]) wr := hlk0
        have HST := Lib.hid hst
        obtain ⟨fk, hfk⟩ : ∃ fk, fk = (ids.take k).filter (pOf L l h) := ⟨_, rfl⟩
        rw [← hfk] at HRO HST
        have hfl : fk.length ≤ 64 := by rw [hfk]; have := List.length_filter_le (pOf L l h) (ids.take k); rw [List.length_take] at this; omega
        have hwz := HBL.out.size
        obtain ⟨ao, co, rfl⟩ := row_form HRO.out
        have HRA := Lib.hid (HRO.out.alloc (.cells #[.int .i64 c.1, .int .i64 c.2.1, .int .i64 c.2.2] 62))
        have HBA := Lib.hid (HBL.out.alloc HBL.out.size (.cells #[.int .i64 c.1, .int .i64 c.2.1, .int .i64 c.2.2] 62))
        clear hcl hie hmem hst hgc hfk hokc hlk0
        have hmx : fk.length + 1 ≤ maxLen := by unfold maxLen; omega
        by_cases hin : inC l h c = true
        · have hin2 : c.2.1 ≤ l ∧ h ≤ c.2.2 := by unfold inC at hin; simpa using hin
          obtain ⟨q1, q2⟩ := hin2
          have HST2 : Hid ((ids.take (k + 1)).filter (pOf L l h) = fk ++ [c.1]) := by show _ = _; rw [HST.out, hin]; rfl
          clear hin
          go_wp2_with (at_builtin; refine wpList_append_own_at _ rfl _ _ 39 rfl w4.heap.size 3 i0 (.int .i64 0) 1 8 Try.underlying39 HI.out hz0 hz1 hz2 rfl (by decide) _ _ _ rfl (HRA.out.alloc _) _ 1 1 [.int .i64 c.1] rfl rfl (cell_one_at _ _ (by simp) _ _) (fun u hu => by simp at hu; subst hu; rfl) hmx (by omega) (by simp; omega) ?_; intro v' w5 hown' hgrow _ hloc; have HOWN := Lib.hid hown'; have HGR := Lib.hid hgrow; clear hown' hgrow hloc)
          go_roundw
          case rel =>
            refine ⟨k + 1, by omega, by go_num, ?_, ?_⟩
            · show World.ownsRow _ _ _ _ _ _ _
              rw [HST2.out, List.length_append, List.map_append]
              exact HOWN.out
            · show Below _ _ _
              exact below_push HBA.out HRA.out HGR.out
          case measure => simp [RowKit.intOf]; omega
        · have hin2 : inC l h c = false := by simpa using hin
          have hn2 : ¬ (c.2.1 ≤ l ∧ h ≤ c.2.2) := by unfold inC at hin; simpa using hin
          have HST2 : Hid ((ids.take (k + 1)).filter (pOf L l h) = fk) := by show _ = _; rw [HST.out, hin2]; simp
          clear hin hin2
          by_cases q1 : c.2.1 ≤ l
          · have q2 : ¬ h ≤ c.2.2 := fun q2 => hn2 ⟨q1, q2⟩
            clear hn2
            go_wp2
            go_roundw
            case rel =>
              refine ⟨k + 1, by omega, by go_num, ?_, HBA.out⟩
              show World.ownsRow _ _ _ _ _ _ _
              rw [HST2.out]; exact HRA.out
            case measure => simp [RowKit.intOf]; omega
          · clear hn2
            go_wp2
            go_roundw
            case rel =>
              refine ⟨k + 1, by omega, by go_num, ?_, HBA.out⟩
              show World.ownsRow _ _ _ _ _ _ _
              rw [HST2.out]; exact HRA.out
            case measure => simp [RowKit.intOf]; omega
      · obtain rfl : k = ids.length := by omega
        have hfin : ∀ vo, wr.ownsRow w4.heap.size 3 1 vo ((ids.take ids.length).filter (pOf L l h)).length (((ids.take ids.length).filter (pOf L l h)).map (Value.int .i64)) → TruePost w cs (.returned vo) wr := fun vo hr => by
          rw [List.take_length] at hr
          refine ⟨vo, _, rfl, ownsRow_base hr HB4.out.size, ⟨HRI.out.sublist List.filter_sublist, fun hno => absurd HG.out (hno _ _ _), fun l' h' v' g => ?_⟩, HB4.out.trans (HBL.out.mono HB4.out.size)⟩
          obtain ⟨rfl, rfl, _⟩ := good_unique HG.out g
          rw [← HLE.out]
          exact filter_ids HND.out l h HP.out
        have HFIN := Lib.hid hfin
        clear hfin
        have hro2 := HRO.out
        obtain ⟨ao, co, rfl⟩ := row_form hro2
        clear hro2
        go_wp2
        go_ret
        exact HFIN.out _ HRO.out
end Go.Proofs.Ytgmgofcclddkiaa
