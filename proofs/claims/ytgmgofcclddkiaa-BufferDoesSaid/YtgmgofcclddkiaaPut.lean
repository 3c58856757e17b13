/- The buffer's Put: what it answers and what the buffer holds behind it, for every buffer, interval and text. -/
import Derived.Test.YtgmgofcclddkiaaLst
import Derived.Test.YtgmgofcclddkiaaPa
import Derived.Test.YtgmgofcclddkiaaPc
namespace Go.Proofs.Ytgmgofcclddkiaa
open Go.RowKit Go.Maps Go.WideShapes

section
variable {w w' : World} {p : Nat} {F : Nat → Prop} {each room : Nat} {L : Things} {dr : Int} {mb : Nat} {fc fs : Int → Nat}

theorem SlotOK.kept {ts : List ByteArray} {c s : Nat} (h : SlotOK w each ts c s) (hc : w'.heap[c]? = w.heap[c]?) (hs : w'.heap[s]? = w.heap[s]?) : SlotOK w' each ts c s := by
  obtain ⟨⟨sn, rn, h1⟩, h2⟩ := h
  exact ⟨⟨sn, rn, hc.trans h1⟩, h2.block hs⟩

theorem Rep.kept (h : Rep w p F each room L dr) (hk : ∀ k, F k → w'.heap[k]? = w.heap[k]?) (hz : w.heap.size ≤ w'.heap.size) : Rep w' p F each room L dr := by
  obtain ⟨hf, mb, fc, fs, g⟩ := h
  refine ⟨hf, mb, fc, fs, ?_⟩
  obtain ⟨i1, i2, i3⟩ := g.inF
  exact ⟨(hk p i1).trans g.own, g.slots.block (hk mb i2), fun i hi => (g.each i hi).kept (hk _ (i3 i hi).1) (hk _ (i3 i hi).2), g.apart, g.apart2, g.inF, fun k hk' => by have := g.ltF k hk'; omega⟩
theorem Rep.lt (h : Rep w p F each room L dr) : ∀ k, F k → k < w.heap.size := by
  obtain ⟨hf, mb, fc, fs, g⟩ := h; exact g.ltF
theorem Rep.inp (h : Rep w p F each room L dr) : F p := by
  obtain ⟨hf, mb, fc, fs, g⟩ := h; exact g.inF.1
theorem Rep.fine (h : Rep w p F each room L dr) : Fine each room L := h.1
/-- nothing of the buffer's has turned -/
theorem Rep.turned {G : Nat → Prop} (h : Rep w p F each room L dr) (ht : Turned G w w') (hg : ∀ k, F k → ¬ G k) : Rep w' p F each room L dr :=
  h.kept (fun k hk => ht.block k (h.lt k hk) (hg k hk)) ht.size
theorem Rep.alloc (h : Rep w p F each room L dr) (o : Obj) : Rep (w.alloc o) p F each room L dr := h.turned (G := fun _ => False) ((Turned.refl _ _).alloc o) (fun _ _ hf => hf)
theorem Rep.drewN (h : Rep w p F each room L dr) (n : Nat) : Rep (w.drewN n) p F each room L dr := h.turned (G := fun _ => False) ((Turned.refl _ _).drewN n) (fun _ _ hf => hf)
/-- the count of what was dropped, written -/
theorem Rep.drop1 (h : Rep w p F each room L dr) (d : Int) : Rep (w.setCell ⟨p, 4, none⟩ (.int .i64 d)) p F each room L d := by
  obtain ⟨hf, mb, fc, fs, g⟩ := h
  refine ⟨hf, mb, fc, fs, ?_⟩
  have hpm : mb ≠ p := fun e => by subst e; obtain ⟨_, _, h1⟩ := g.slots.isObj; rw [g.own] at h1; cases h1
  have hk : ∀ k, k ≠ p → (w.setCell ⟨p, 4, none⟩ (.int .i64 d)).heap[k]? = w.heap[k]? := fun k hk => Below.heap_setCell _ _ _ _ hk
  refine ⟨own_set4 g.own, g.slots.block (hk _ hpm), fun i hi => ?_, g.apart, g.apart2, g.inF, fun k hk' => by simpa using g.ltF k hk'⟩
  obtain ⟨⟨sn, rn, h1⟩, h2⟩ := g.each i hi
  have e1 : fc i ≠ p := fun e => by rw [e, g.own] at h1; cases h1
  have e2 : fs i ≠ p := fun e => by obtain ⟨_, _, h3⟩ := h2.isObj; rw [e, g.own] at h3; cases h3
  exact (g.each i hi).kept (hk _ e1) (hk _ e2)
end

/-- what Put leaves behind -/
def PutPost (w : World) (p : Nat) (F : Nat → Prop) (each room : Nat) (L : Things) (dr : Int) (i : Int) (t : ByteArray) (e : Ending) (w' : World) : Prop :=
  e = .returned (.int .i64 (putE each room L i t)) ∧ ∃ F', Rep w' p F' each room (putL each room L i t) (putD each room L i t dr) ∧ Turned F w w' ∧ (∀ k, F' k → F k ∨ w.heap.size ≤ k) ∧ ∀ k, F k → F' k

theorem chan_ne {w : World} {c m : Nat} {cap : Nat} {buf : Array Value} {cl tm : Bool} {sn rn : Nat} (h : w.heap[c]? = some (.chan cap buf cl sn rn tm)) {es : Array MapEntry} {ck : Nat} (h' : w.heap[m]? = some (.map es ck)) : c ≠ m :=
  fun e => by subst e; rw [h] at h'; cases h'

theorem put_any {w : World} {p : Nat} {F : Nat → Prop} {each room : Nat} {L : Things} {dr : Int} (h : Rep w p F each room L dr) (i : Int) (t : ByteArray)
    (h1 : -9223372036854775808 ≤ i) (h2 : i ≤ 9223372036854775807) (ht : t.size ≤ maxLen) (hd1 : -9223372036854775808 ≤ dr) (hd2 : dr + 1 ≤ 9223372036854775807) (hL : L.length < 4611686018427387904) :
    Calls Try.prog 17 #[.pointer (some ⟨p, 0, none⟩), .int .i64 i, .string t] w (PutPost w p F each room L dr i t) := by
  have hf := h.fine
  have hh := h
  obtain ⟨_, mb, fc, fs, g⟩ := hh
  have hl := g.look_ok i h1 h2
  have hFp := g.inF.1
  by_cases hlow : i < 1
  · have hno : ¬ hasI L i = true := fun hi => by
      obtain ⟨u, hu⟩ := (hasI_iff L i).1 hi
      have := (hf.pos _ hu).1; omega
    rw [if_neg hno, slotZ] at hl
    refine (put_low g.own i hlow t none none _ hl).mono ?_
    rintro e w' ⟨rfl, rfl⟩
    have e0 : putE each room L i t = 1 := if_pos hlow
    refine ⟨by rw [e0], F, ?_, (Turned.refl _ _).alloc _, fun k hk => .inl hk, fun k hk => hk⟩
    unfold putL putD
    rw [e0, if_neg (by omega), if_neg (by omega)]
    exact h.alloc _
  have hk := Go.WideMaps.keyOf_string_mk Try.underlying9 ht
  by_cases hi : hasI L i = true
  · rw [if_pos hi, slotV, hi] at hl
    have hsl := g.each i hi
    have hs : ∀ o, (Instr.lookup 49 (.map (some (fs i))) (.string t) false).run Try.prog (w.alloc o) = .ok (.bool (hasT L i t)) (w.alloc o) := fun o => by
      have := (hsl.set.block (w' := w.alloc o) (Below.heap_alloc _ _ _ hsl.set.lt)).look keyed9 Try.underlying49 (zero4 _) hk
      rw [setG_eq] at this; exact this
    by_cases hT : hasT L i t = true
    · rw [hT] at hs
      refine (put_twice g.own i hlow t (some (fc i)) (some (fs i)) hl hs).mono ?_
      rintro e w' ⟨rfl, rfl⟩
      have e0 : putE each room L i t = 11 := by unfold putE; rw [if_neg hlow, if_pos hT]
      refine ⟨by rw [e0], F, ?_, (Turned.refl _ _).alloc _, fun k hk => .inl hk, fun k hk => hk⟩
      unfold putL putD
      rw [e0, if_neg (by omega), if_neg (by omega)]
      exact h.alloc _
    have hT' : hasT L i t = false := by simpa using hT
    rw [hT'] at hs
    obtain ⟨sn, rn, hc⟩ := hsl.chan
    by_cases hr : (texts L i).length < each
    · refine (put_room g.own i hlow t (fc i) (fs i) sn rn _ _ _ hl hs hc (by simpa using hr) hsl.set (by have := hf.b2; unfold maxLen; omega) ht (by omega) (by omega)).mono ?_
      rintro e w' ⟨rfl, q, w2, hm2, ht2, rfl⟩
      have e0 : putE each room L i t = 0 := by unfold putE; rw [if_neg hlow, if_neg hT, if_pos hi, if_pos hr]
      obtain ⟨i1, i2, i3⟩ := g.inF
      have hcF := (i3 i hi).1
      have hsF := (i3 i hi).2
      have hcl : fc i < w.heap.size := g.ltF _ hcF
      have T0 : Turned F w ((w.alloc (.cells #[.chan (some (fc i)), .map (some (fs i))] 74)).drewN q) := ((Turned.refl F w).alloc _).drewN q
      have T1 := T0.setChan (.inl hcF) each (((texts L i).map Value.string).toArray.push (.string t)) false (sn + 1) rn false
      have T2 := T1.grown ht2.grown (fun j e => by cases e; exact .inl hsF)
      have T3 := T2.setCell (p := ⟨p, 3, none⟩) (.inl i1) (.int .i64 (L.length + 1))
      -- what lies where
      have a0 : ∀ k, k < w.heap.size → ((w.alloc (.cells #[.chan (some (fc i)), .map (some (fs i))] 74)).drewN q).heap[k]? = w.heap[k]? := fun k hk' => Below.heap_alloc _ _ _ hk'
      have a3 : ∀ (u : Value) k, k < w.heap.size → k ≠ fc i → k ≠ fs i → k ≠ p → (w2.setCell ⟨p, 3, none⟩ u).heap[k]? = w.heap[k]? := fun u k hk' n1 n2 n3 => by
        rw [Below.heap_setCell _ _ _ _ n3, mapTurned_heap_ne ht2 n2, setChan_heap_ne n1]; exact a0 k hk'
      obtain ⟨es0, ck0, hsO⟩ := hsl.set.isObj
      have ncs : fc i ≠ fs i := chan_ne hc hsO
      have ncp : fc i ≠ p := fun e => by rw [e, g.own] at hc; cases hc
      have nsp : fs i ≠ p := fun e => by rw [e, g.own] at hsO; cases hsO
      obtain ⟨esm, ckm, hmO⟩ := g.slots.isObj
      have ncm : fc i ≠ mb := chan_ne hc hmO
      have nmp : mb ≠ p := fun e => by rw [e, g.own] at hmO; cases hmO
      refine ⟨by rw [e0], F, ?_, T3, fun k hk => .inl hk, fun k hk => hk⟩
      unfold putL putD
      rw [e0, if_pos rfl, if_neg (by omega)]
      refine ⟨hf.snoc (by omega) h2 ht hT hr (.inl hi), mb, fc, fs, ?_⟩
      refine ⟨?_, ?_, ?_, ?_, ?_, ?_, ?_⟩
      · have : w2.heap[p]? = some (.cells #[.int .i64 each, .int .i64 room, .map (some mb), .int .i64 L.length, .int .i64 dr] 71 (0, 0)) := by
          rw [mapTurned_heap_ne ht2 nsp.symm, setChan_heap_ne ncp.symm]
          exact (a0 p (g.ltF p i1)).trans g.own
        have := own_set3 (d' := .int .i64 (L.length + 1)) this
        rw [this]; simp
      · have hb := g.slots.block (a3 (.int .i64 (L.length + 1)) mb (g.ltF _ i2) ncm.symm (g.apart2 i hi).symm nmp)
        rw [len_ivs_snoc, if_pos hi]
        exact hb.congr (fun l => slotG_snoc_old hi t fc fs l)
      · intro j hj
        rw [texts_snoc]
        by_cases hij : i = j
        · subst hij
          rw [if_pos rfl]
          refine ⟨⟨sn + 1, rn, ?_⟩, ?_⟩
          · rw [Below.heap_setCell _ _ _ _ ncp, mapTurned_heap_ne ht2 ncs, Conc.heap_setChan _ _ _ _ _ _ _ _ (by simp; omega)]
            simp
          · have := (hm2.block (w' := w2.setCell ⟨p, 3, none⟩ (.int .i64 (L.length + 1))) (Below.heap_setCell _ _ _ _ nsp)).congr (fun l => setG_snoc (texts L i) t l)
            simpa using this
        · rw [if_neg hij]
          have hj' : hasI L j = true := by rw [hasI_snoc] at hj; simpa [hij] using hj
          obtain ⟨x1, x2⟩ := g.apart i j hi hj' hij
          obtain ⟨⟨sj, rj, y1⟩, y2⟩ := g.each j hj'
          obtain ⟨ej, kj, y3⟩ := y2.isObj
          exact (g.each j hj').kept (a3 _ _ (g.ltF _ (i3 j hj').1) x1.symm (chan_ne y1 hsO) (fun e => by rw [e, g.own] at y1; cases y1))
            (a3 _ _ (g.ltF _ (i3 j hj').2) (chan_ne hc y3).symm x2.symm (fun e => by rw [e, g.own] at y3; cases y3))
      · intro a b ha hb hab
        rw [hasI_snoc] at ha hb
        refine g.apart a b ?_ ?_ hab
        · rcases Bool.or_eq_true _ _ ▸ ha with ha | ha
          · exact ha
          · rw [beq_iff_eq] at ha; subst ha; exact hi
        · rcases Bool.or_eq_true _ _ ▸ hb with hb | hb
          · exact hb
          · rw [beq_iff_eq] at hb; subst hb; exact hi
      · intro a ha
        rw [hasI_snoc] at ha
        refine g.apart2 a ?_
        rcases Bool.or_eq_true _ _ ▸ ha with ha | ha
        · exact ha
        · rw [beq_iff_eq] at ha; subst ha; exact hi
      · refine ⟨i1, i2, fun a ha => i3 a ?_⟩
        rw [hasI_snoc] at ha
        rcases Bool.or_eq_true _ _ ▸ ha with ha | ha
        · exact ha
        · rw [beq_iff_eq] at ha; subst ha; exact hi
      · intro k hk'
        have := g.ltF k hk'
        have := T3.size
        omega
    · refine (put_full g.own i hlow t (fc i) (fs i) sn rn _ hl hs hc (by simpa using Nat.le_of_not_lt hr) hd1 hd2).mono ?_
      rintro e w' ⟨rfl, q, rfl⟩
      have e0 : putE each room L i t = 4 := by unfold putE; rw [if_neg hlow, if_neg hT, if_pos hi, if_neg hr]
      refine ⟨by rw [e0], F, ?_, ((((Turned.refl _ _).alloc _).drewN q).setCell (.inl hFp) _), fun k hk => .inl hk, fun k hk => hk⟩
      unfold putL putD
      rw [e0, if_neg (by omega), if_pos rfl]
      exact ((h.alloc _).drewN q).drop1 _
  · have hi' : hasI L i = false := by simpa using hi
    rw [if_neg hi, slotZ, hi'] at hl
    have hT := hasT_no hi t
    have hs : ∀ o, (Instr.lookup 49 (.map none) (.string t) false).run Try.prog (w.alloc o) = .ok (.bool false) (w.alloc o) := fun o => by
      have := look_nil (w := w.alloc o) false keyed9 Try.underlying49 (zero4 _) hk
      simpa using this
    have hn : ∀ o q, (Builtin.len_ #[69] 3 #[.map (some mb)]).run Try.prog ((w.alloc o).drewN q) = .ok (.int .i64 (ivs L).length) ((w.alloc o).drewN q) := fun o q => by
      have := (g.slots.block (w' := (w.alloc o).drewN q) (Below.heap_alloc _ _ _ g.slots.lt)).len keyed3 Try.underlying69 (keysOf_nodup L) (keysOf_mem L fc fs) 3
      rw [this, keysOf_len]
    have hT' : ¬ hasT L i t = true := by rw [hT]; simp
    by_cases hr : (ivs L).length < room
    · have hkr : (((ivs L).length : Int) == (room : Int)) = false := by rw [beq_eq_false_iff_ne]; omega
      refine (put_new g.own i hlow h2 t ht _ g.slots (by have := hf.many; have := hf.b4; unfold maxLen; omega) hl hs hn hkr hf.b2 hf.b1 (by omega) (by omega)).mono ?_
      rintro e w' ⟨rfl, N⟩
      have e0 : putE each room L i t = 0 := by unfold putE; rw [if_neg hlow, if_neg hT', if_neg hi, if_pos hr]
      obtain ⟨i1, i2, i3⟩ := g.inF
      have T3 : Turned F w w' := N.turned.sub (fun j hj => hj.elim (fun e => by rw [e]; exact i1) (fun e => by rw [e]; exact i2))
      have a3 : ∀ k, k < w.heap.size → k ≠ p → k ≠ mb → w'.heap[k]? = w.heap[k]? := fun k hk' n1 n2 => N.turned.block k hk' (by simp [n1, n2])
      refine ⟨by rw [e0], fun k => F k ∨ k = w.heap.size + 1 ∨ k = w.heap.size + 2, ?_, T3, fun k hk => hk.elim .inl (fun h => .inr (by omega)), fun k hk => .inl hk⟩
      unfold putL putD
      rw [e0, if_pos rfl, if_neg (by omega)]
      refine ⟨hf.snoc (by omega) h2 ht hT' (by rw [texts_no hi]; exact hf.b1) (.inr hr), mb, fset fc i (w.heap.size + 1), fset fs i (w.heap.size + 2), ?_⟩
      have hold : ∀ {j}, hasI (L ++ [(i, t)]) j = true → j = i ∨ (j ≠ i ∧ hasI L j = true) := fun {j} hj => by
        rw [hasI_snoc] at hj
        rcases Bool.or_eq_true _ _ ▸ hj with hj | hj
        · by_cases e : j = i
          · exact .inl e
          · exact .inr ⟨e, hj⟩
        · rw [beq_iff_eq] at hj; exact .inl hj.symm
      refine ⟨?_, ?_, ?_, ?_, ?_, ?_, ?_⟩
      · rw [N.own]; simp
      · rw [len_ivs_snoc, if_neg hi]
        exact N.slots.congr (fun l => slotG_snoc_new t fc fs _ _ l)
      · intro j hj
        rw [texts_snoc]
        rcases hold hj with rfl | ⟨hne, hj'⟩
        · rw [if_pos rfl, texts_no hi, fset_same, fset_same]
          refine ⟨⟨1, 0, ?_⟩, ?_⟩
          · rw [N.chan]; rfl
          · refine N.set.congr (fun l => ?_)
            rw [setG_snoc]
            by_cases hlt : l = .string t.data.toList
            · subst hlt; rw [upd_same, upd_same]
            · rw [upd_other _ hlt, upd_other _ hlt]; unfold setG; split <;> simp
        · rw [if_neg (fun e => hne e.symm), fset_other _ hne, fset_other _ hne]
          obtain ⟨⟨sj, rj, y1⟩, y2⟩ := g.each j hj'
          obtain ⟨ej, kj, y3⟩ := y2.isObj
          obtain ⟨esm, ckm, hmO⟩ := g.slots.isObj
          exact (g.each j hj').kept (a3 _ (g.ltF _ (i3 j hj').1) (fun e => by rw [e, g.own] at y1; cases y1) (chan_ne y1 hmO))
            (a3 _ (g.ltF _ (i3 j hj').2) (fun e => by rw [e, g.own] at y3; cases y3) (g.apart2 j hj'))
      · intro a b ha hb hab
        rcases hold ha with rfl | ⟨na, ha'⟩
        · rcases hold hb with rfl | ⟨nb, hb'⟩
          · exact absurd rfl hab
          · rw [fset_same, fset_same, fset_other _ nb, fset_other _ nb]
            have := g.ltF _ (i3 b hb').1
            have := g.ltF _ (i3 b hb').2
            omega
        · rcases hold hb with rfl | ⟨nb, hb'⟩
          · rw [fset_same, fset_same, fset_other _ na, fset_other _ na]
            have := g.ltF _ (i3 a ha').1
            have := g.ltF _ (i3 a ha').2
            omega
          · rw [fset_other _ na, fset_other _ na, fset_other _ nb, fset_other _ nb]
            exact g.apart a b ha' hb' hab
      · intro a ha
        rcases hold ha with rfl | ⟨na, ha'⟩
        · rw [fset_same]; have := g.ltF _ i2; omega
        · rw [fset_other _ na]; exact g.apart2 a ha'
      · refine ⟨.inl i1, .inl i2, fun a ha => ?_⟩
        rcases hold ha with rfl | ⟨na, ha'⟩
        · rw [fset_same, fset_same]; exact ⟨.inr (.inl rfl), .inr (.inr rfl)⟩
        · rw [fset_other _ na, fset_other _ na]; exact ⟨.inl (i3 a ha').1, .inl (i3 a ha').2⟩
      · intro k hk'
        have hz := N.size
        rcases hk' with hk' | hk' | hk'
        · have := g.ltF k hk'; omega
        · omega
        · omega
    · have hre : (ivs L).length = room := by have := hf.many; omega
      rw [hre] at hn
      refine (put_many g.own i hlow t hl hs hn hd1 hd2).mono ?_
      rintro e w' ⟨rfl, q, rfl⟩
      have e0 : putE each room L i t = 4 := by unfold putE; rw [if_neg hlow, if_neg hT', if_neg hi, if_neg hr]
      refine ⟨by rw [e0], F, ?_, ((((Turned.refl _ _).alloc _).drewN q).setCell (.inl hFp) _), fun k hk => .inl hk, fun k hk => hk⟩
      unfold putL putD
      rw [e0, if_neg (by omega), if_pos rfl]
      exact ((h.alloc _).drewN q).drop1 _
end Go.Proofs.Ytgmgofcclddkiaa
