/- Maps as partial functions of their keys: what look-ups, stores, deletes and len do, for every program, whatever the elements are. -/
import Derived.Maps.OwnSet
import Derived.Maps.RangeWalk
import Derived.Lib.SlKeysI
import Derived.WalkKit
import Derived.Conc.LoneSelect
namespace Go.Proofs.Ytgmgofcclddkiaa
open Go.RowKit Go.Maps Go.WideShapes

/-- every element reads as itself -/
def rv (v : Value) : Option (DataW Value × List MemPlace) := some (.held v, [])

/-- the datum holds just what g says -/
def Holds (D : DataW Value) (g : Lit → Option Value) : Prop := ∀ l z, D.atKey l z = match g l with | some v => .held v | none => z

/-- block b is a map of at most n entries that holds just what g says -/
def MapIs (P : Program) (k : TypeId) (w : World) (b n : Nat) (g : Lit → Option Value) : Prop := ∃ D, w.ownsMap P k rv b n D ∧ Holds D g

/-- g with another answer at one key -/
noncomputable def upd (g : Lit → Option Value) (kl : Lit) (o : Option Value) : Lit → Option Value := fun l => @ite _ (l = kl) (Classical.propDecidable _) o (g l)
theorem upd_same (g : Lit → Option Value) (kl : Lit) (o : Option Value) : upd g kl o kl = o := by unfold upd; exact if_pos rfl
theorem upd_other (g : Lit → Option Value) {kl l : Lit} (h : l ≠ kl) (o : Option Value) : upd g kl o l = g l := by unfold upd; exact if_neg h

theorem holds_has {D : DataW Value} {g : Lit → Option Value} (h : Holds D g) (l : Lit) : has D l = (g l).isSome := by
  cases hg : g l with
  | none => exact has_false_of_atKey (fun z => by rw [h l z, hg])
  | some v => exact has_true_of_atKey (y := .held v) (fun z => by rw [h l z, hg])

section
variable {P : Program} {k : TypeId} {w : World} {b n : Nat} {g : Lit → Option Value}

theorem MapIs.made (w : World) (P : Program) (k : TypeId) : MapIs P k (w.alloc (.map #[] 0)) w.heap.size 0 (fun _ => none) :=
  ⟨.map [], World.ownsMap_made _ _ _ _, fun _ _ => rfl⟩

theorem MapIs.lt (h : MapIs P k w b n g) : b < w.heap.size := by
  obtain ⟨D, h, _⟩ := h; exact h.lt

theorem MapIs.block {w' : World} (h : MapIs P k w b n g) (hb : w'.heap[b]? = w.heap[b]?) : MapIs P k w' b n g := by
  obtain ⟨D, ⟨es, clock, h1, h2⟩, h3⟩ := h
  exact ⟨D, ⟨es, clock, hb.trans h1, h2⟩, h3⟩

theorem MapIs.isObj (h : MapIs P k w b n g) : ∃ es clock, w.heap[b]? = some (.map es clock) := by
  obtain ⟨D, ⟨es, clock, h1, _⟩, _⟩ := h
  exact ⟨es, clock, h1⟩

theorem MapIs.mono (h : MapIs P k w b n g) {m : Nat} (hm : n ≤ m) : MapIs P k w b m g := by
  obtain ⟨D, h, h'⟩ := h; exact ⟨D, h.mono hm, h'⟩

theorem MapIs.congr (h : MapIs P k w b n g) {g' : Lit → Option Value} (e : ∀ l, g' l = g l) : MapIs P k w b n g' := by
  obtain ⟨D, h, h'⟩ := h; exact ⟨D, h, fun l z => by rw [h' l z, e l]⟩

/-- how many entries the datum has -/
theorem MapIs.count (h : MapIs P k w b n g) (K : Keyed P k) {ks : List Lit} (hn : ks.Nodup) (hk : ∀ l, l ∈ ks ↔ (g l).isSome = true) :
    ∃ D, w.ownsMap P k rv b ks.length D ∧ Holds D g ∧ Maps.size D = ks.length := by
  obtain ⟨D, ho, hg⟩ := h
  have ht := ho.tidy K
  obtain ⟨es, clock, hb, F, hs, hD⟩ := ho
  have hsz : Maps.size D = es.size := by rw [hD]; simp [Maps.size, length_sorted]
  obtain ⟨E, rfl, hE⟩ := ht
  have hnd : (E.map (·.1)).Nodup := List.pairwise_map.2 hE
  have hmem : ∀ l, l ∈ E.map (·.1) ↔ l ∈ ks := by
    intro l
    rw [hk l, ← holds_has hg l, has_eq, List.any_eq_true, List.mem_map]
    constructor
    · rintro ⟨p, hp, rfl⟩
      refine ⟨p, hp, ?_⟩
      have : WideAt.IsKeyLit p.1 := by
        have e := hD
        simp only [DataW.map.injEq] at e
        have hp' : p ∈ (es.toList.map (WideElems.rg P k rv)) := by
          have := (sorted_perm (es.toList.map (WideElems.rg P k rv))).mem_iff (a := p)
          rw [← this, ← e]; exact hp
        obtain ⟨x, hx, rfl⟩ := List.mem_map.1 hp'
        obtain ⟨y, hy⟩ := F.reads x hx
        have e1 := WideElems.rg_of hy
        rw [e1]
        exact K.key (WideElems.rd_key hy)
      exact WideAt.sameKey_self this
    · rintro ⟨p, hp, hs⟩
      exact ⟨p, hp, WideAt.sameKey_eq hs⟩
  have hlen : E.length = ks.length := by
    have := ((List.perm_ext_iff_of_nodup hnd hn).2 hmem).length_eq
    simpa using this
  have hsz' : Maps.size (.map E : DataW Value) = ks.length := by simpa [Maps.size] using hlen
  exact ⟨.map E, ⟨es, clock, hb, F, by omega, hD⟩, hg, hsz'⟩

theorem MapIs.tight (h : MapIs P k w b n g) (K : Keyed P k) {ks : List Lit} (hn : ks.Nodup) (hk : ∀ l, l ∈ ks ↔ (g l).isSome = true) : MapIs P k w b ks.length g := by
  obtain ⟨D, h1, h2, _⟩ := h.count K hn hk; exact ⟨D, h1, h2⟩

/-- v, ok := m[k] -/
theorem MapIs.look_ok {t e : TypeId} (h : MapIs P k w b n g) (K : Keyed P k) (ht : P.underlying t = some (.map k e)) {z : Value} (hz : (zeroValue e).run P w = .ok z w) {key : Value} {kl : Lit} (hkey : keyOf P k key = some kl) :
    (Instr.lookup t (.map (some b)) key true).run P w = .ok (.tuple #[(g kl).getD z, .bool (g kl).isSome]) w := by
  obtain ⟨D, ho, hg⟩ := h
  obtain ⟨v, ps, hrun, hv⟩ := ho.look_ok K ht hz (zd := .held z) (zp := []) rfl hkey
  rw [hrun, holds_has hg kl]
  have : v = (g kl).getD z := by
    have e := hg kl (.held z)
    simp only [rv, Option.some.injEq, Prod.mk.injEq] at hv
    rw [← hv.1] at e
    cases hgk : g kl <;> rw [hgk] at e <;> simpa using e
  rw [this]

/-- m[k] -/
theorem MapIs.look {t e : TypeId} (h : MapIs P k w b n g) (K : Keyed P k) (ht : P.underlying t = some (.map k e)) {z : Value} (hz : (zeroValue e).run P w = .ok z w) {key : Value} {kl : Lit} (hkey : keyOf P k key = some kl) :
    (Instr.lookup t (.map (some b)) key false).run P w = .ok ((g kl).getD z) w := by
  obtain ⟨D, ho, hg⟩ := h
  obtain ⟨v, ps, hrun, hv⟩ := ho.lookup K ht hz (zd := .held z) (zp := []) rfl hkey
  rw [hrun]
  have : v = (g kl).getD z := by
    have e := hg kl (.held z)
    simp only [rv, Option.some.injEq, Prod.mk.injEq] at hv
    rw [← hv.1] at e
    cases hgk : g kl <;> rw [hgk] at e <;> simpa using e
  rw [this]

/-- m[k] = v -/
theorem MapIs.store {t e : TypeId} (h : MapIs P k w b n g) (K : Keyed P k) (ht : P.underlying t = some (.map k e)) (hn : n < maxLen) {key : Value} {kl : Lit} (hkey : keyOf P k key = some kl) (val : Value) :
    ∃ w', (Instr.mapUpdate t (.map (some b)) key val).run P w = .ok () w' ∧ MapIs P k w' b (n + 1) (upd g kl (some val)) ∧ w.mapTurned w' b := by
  obtain ⟨D, ho, hg⟩ := h
  obtain ⟨w', hrun, ho', ht'⟩ := ho.store K ht hn hkey (val := val) (d := .held val) (ps := []) rfl
  refine ⟨w', hrun, ⟨_, ho', fun l z => ?_⟩, ht'⟩
  by_cases hl : l = kl
  · subst hl
    rw [atKey_put_same ho.isMap (K.key hkey), upd_same]
  · rw [atKey_put_other hl, hg l z, upd_other g hl]

/-- delete(m, k) -/
theorem MapIs.drop {t e : TypeId} (h : MapIs P k w b n g) (K : Keyed P k) (ht : P.underlying t = some (.map k e)) {key : Value} {kl : Lit} (hkey : keyOf P k key = some kl) (ty : TypeId) :
    ∃ w', (Builtin.delete_ #[t, k] ty #[.map (some b), key]).run P w = .ok (.tuple #[]) w' ∧ MapIs P k w' b n (upd g kl none) ∧ w.mapTurned w' b := by
  obtain ⟨D, ho, hg⟩ := h
  obtain ⟨w', hrun, ho', ht'⟩ := ho.drop K ht hkey ty
  refine ⟨w', hrun, ⟨_, ho', fun l z => ?_⟩, ht'⟩
  by_cases hl : l = kl
  · subst hl
    rw [atKey_del_same, upd_same]
  · rw [atKey_del_other hl, hg l z, upd_other g hl]

/-- len(m) -/
theorem MapIs.len {t e : TypeId} (h : MapIs P k w b n g) (K : Keyed P k) (ht : P.underlying t = some (.map k e)) {ks : List Lit} (hn : ks.Nodup) (hk : ∀ l, l ∈ ks ↔ (g l).isSome = true) (ty : TypeId) :
    (Builtin.len_ #[t] ty #[.map (some b)]).run P w = .ok (.int .i64 ks.length) w := by
  obtain ⟨D, ho, _, hs⟩ := h.count K hn hk
  rw [ho.len ht ty, hs]
end

/-! ### at the operation -/
section
variable {P : Program} (w : World) {ops : Array Oper} {rest : List Oper} {o : Oper} {a : Act} {Q : Exit → Act → World → Prop}
theorem wpList_look (hg : o.guard = none) (m x : Operand) (t : TypeId) (hop : o.op = Op.lookup t m x false) {k e : TypeId} (K : Keyed P k) (ht : P.underlying t = some (.map k e))
    {z : Value} (hz : (zeroValue e).run P w = .ok z w) {b n : Nat} {g : Lit → Option Value} (hm : a.eval m = .map (some b)) (hmap : MapIs P k w b n g) {key : Value} {kl : Lit} (hx : a.eval x = key) (hkey : keyOf P k key = some kl)
    (hK : wpList P ops Q rest (a.put o.dst ((g kl).getD z)) w) : wpList P ops Q (o :: rest) a w := by
  refine wpList_plain hg fun K' hK' => ?_
  unfold Oper.wp
  simp [execOp, hop, hm, hx, hmap.look K ht hz hkey, Result.andThen]
  exact hK' _ _ hK
theorem wpList_look_ok (hg : o.guard = none) (m x : Operand) (t : TypeId) (hop : o.op = Op.lookup t m x true) {k e : TypeId} (K : Keyed P k) (ht : P.underlying t = some (.map k e))
    {z : Value} (hz : (zeroValue e).run P w = .ok z w) {b n : Nat} {g : Lit → Option Value} (hm : a.eval m = .map (some b)) (hmap : MapIs P k w b n g) {key : Value} {kl : Lit} (hx : a.eval x = key) (hkey : keyOf P k key = some kl)
    (hK : wpList P ops Q rest (a.put o.dst (.tuple #[(g kl).getD z, .bool (g kl).isSome])) w) : wpList P ops Q (o :: rest) a w := by
  refine wpList_plain hg fun K' hK' => ?_
  unfold Oper.wp
  simp [execOp, hop, hm, hx, hmap.look_ok K ht hz hkey, Result.andThen]
  exact hK' _ _ hK
theorem wpList_store (hg : o.guard = none) (m x v : Operand) (t : TypeId) (hop : o.op = Op.mapUpdate t m x v) {k e : TypeId} (K : Keyed P k) (ht : P.underlying t = some (.map k e))
    {b n : Nat} {g : Lit → Option Value} (hm : a.eval m = .map (some b)) (hmap : MapIs P k w b n g) (hn : n < maxLen) {key val : Value} {kl : Lit} (hx : a.eval x = key) (hv : a.eval v = val) (hkey : keyOf P k key = some kl)
    (hK : ∀ w', MapIs P k w' b (n + 1) (upd g kl (some val)) → w.mapTurned w' b → wpList P ops Q rest (a.put o.dst undef) w') : wpList P ops Q (o :: rest) a w := by
  refine wpList_plain hg fun K' hK' => ?_
  obtain ⟨w', hrun, r1, r2⟩ := hmap.store K ht hn hkey val
  unfold Oper.wp
  simp [execOp, hop, hm, hx, hv, hrun, Result.andThen]
  exact hK' _ _ (hK w' r1 r2)
theorem wpList_drop (hg : o.guard = none) (m x : Operand) (t k : TypeId) (hop : o.op = Op.call { callee := Callee.builtin Builtin.delete, args := #[m, x], argTypes := #[t, k] }) {e : TypeId} (K : Keyed P k) (ht : P.underlying t = some (.map k e))
    {b n : Nat} {g : Lit → Option Value} (hm : a.eval m = .map (some b)) (hmap : MapIs P k w b n g) {key : Value} {kl : Lit} (hx : a.eval x = key) (hkey : keyOf P k key = some kl)
    (hK : ∀ w', MapIs P k w' b n (upd g kl none) → w.mapTurned w' b → wpList P ops Q rest (a.put o.dst (.tuple #[])) w') : wpList P ops Q (o :: rest) a w := by
  refine wpList_plain hg fun K' hK' => ?_
  obtain ⟨w', hrun, r1, r2⟩ := hmap.drop K ht hkey o.type
  unfold Oper.wp
  simp [execOp, hop, resolve, invoke, builtin, hm, hx, hrun, Result.andThen]
  exact hK' _ _ (hK w' r1 r2)
theorem wpList_mlen (hg : o.guard = none) (m : Operand) (t : TypeId) (hop : o.op = Op.call { callee := Callee.builtin Builtin.len, args := #[m], argTypes := #[t] }) {k e : TypeId} (K : Keyed P k) (ht : P.underlying t = some (.map k e))
    {b n : Nat} {g : Lit → Option Value} (hm : a.eval m = .map (some b)) (hmap : MapIs P k w b n g) {ks : List Lit} (hn : ks.Nodup) (hk : ∀ l, l ∈ ks ↔ (g l).isSome = true)
    (hK : wpList P ops Q rest (a.put o.dst (.int .i64 ks.length)) w) : wpList P ops Q (o :: rest) a w := by
  refine wpList_plain hg fun K' hK' => ?_
  unfold Oper.wp
  simp [execOp, hop, resolve, invoke, builtin, hm, hmap.len K ht hn hk o.type, Result.andThen]
  exact hK' _ _ hK
end

theorem setChan_heap_ne {w : World} {c cap : Nat} {buf : Array Value} {cl : Bool} {s r : Nat} {tm : Bool} {j : Nat} (h : j ≠ c) : (w.setChan c cap buf cl s r tm).heap[j]? = w.heap[j]? := by
  simp only [World.setChan]; rw [Array.getElem?_setIfInBounds_ne (fun e => h e.symm)]
theorem mapTurned_heap_ne {w w' : World} {b j : Nat} (h : w.mapTurned w' b) (hj : j ≠ b) : w'.heap[j]? = w.heap[j]? := by
  obtain ⟨es, clock, es', clock', hb, rfl⟩ := h
  exact ChangeMaps.heap_setBlock_other hb _ hj
theorem mapTurned_size {w w' : World} {b : Nat} (h : w.mapTurned w' b) : w'.heap.size = w.heap.size := by
  obtain ⟨es, clock, es', clock', hb, rfl⟩ := h
  simp [ChangeMaps.setBlock]
end Go.Proofs.Ytgmgofcclddkiaa
