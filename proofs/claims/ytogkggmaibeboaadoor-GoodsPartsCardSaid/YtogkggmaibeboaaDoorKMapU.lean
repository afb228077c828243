/- Maps with keys of any kind: an entry written over. -/
import Derived.Test.YtogkggmaibeboaaDoorKMap
namespace Go.Proofs.YtogkggmaibeboaaDoor.Km
open Go Go.RowKit
set_option maxRecDepth 100000
variable {α : Type} [DecidableEq α] {enc : α → Value} {P : Program} {w : World} {t k e : TypeId}

theorem run_update_old (ht : P.underlying t = some (.map k e)) (K : Maps.Keyed P k) (inj : ∀ a b, enc a = enc b → a = b) {b : Nat} {l : List (α × Value)} (h : KMapAt P k enc w b l) (hnd : (l.map Prod.fst).Nodup) {a : α} {x : Lit} (ha : keyOf P k (enc a) = some x) {v : Value} (hg : kget l a = some v) :
    ∃ w', (Instr.mapUpdate t (.map (some b)) (enc a) v).run P w = .ok () w' ∧ KMapAt P k enc w' b l ∧ w.grownBy w' (some b) ∧ w'.heap.size = w.heap.size := by
  obtain ⟨es, clock, hb, hl, hk⟩ := h
  have hc2 := K.check w false ha
  rcases K.find w ha es.toList hk with ⟨h1, h2⟩ | ⟨j, y, h1, h2, h3⟩
  · rcases run_find (w := w) K inj hl hk hnd ha with ⟨h4, h5⟩ | ⟨j, v', h4, h5⟩
    · rw [hg] at h4; cases h4
    · rw [h1] at h5; cases h5
  · have hy := mem_get hnd inj hl h2 h3
    rw [hg] at hy
    obtain rfl := Option.some.inj hy
    have hj : es[j]? = some y := by simpa using h2
    have hst := K.stays w ha
    have hm : (es.modify j fun e => { key := enc a, val := y.val, born := e.born }) = es := by
      apply Array.ext_getElem?
      intro i
      rw [Array.getElem?_modify]
      split
      · rename_i hi
        subst hi
        rw [hj, ← h3]
        rfl
      · rfl
    refine ⟨ChangeMaps.setBlock w b (.map es clock), ?_, ⟨_, _, ChangeMaps.heap_setBlock_same hb _, hl, hk⟩, ⟨rfl, rfl, rfl, by simp [ChangeMaps.setBlock], fun i _ hi => ChangeMaps.heap_setBlock_other hb _ (fun e => hi (by rw [e]))⟩, by simp [ChangeMaps.setBlock]⟩
    simp [Instr.mapUpdate, run_underlying ht, MapKept.run_getObj_map hb, hc2, h1, hj, h3, hst, hm, MapKept.run_setObj_map _ hb, Result.andThen, ChangeMaps.setBlock]
/-- A key laid in, that is not there or has that value already. -/
def putK (l : List (α × Value)) (a : α) (v : Value) : List (α × Value) := match kget l a with
  | some _ => l
  | none => l ++ [(a, v)]
theorem run_put (ht : P.underlying t = some (.map k e)) (K : Maps.Keyed P k) (inj : ∀ a b, enc a = enc b → a = b) {b : Nat} {l : List (α × Value)} (h : KMapAt P k enc w b l) (hnd : (l.map Prod.fst).Nodup) {a : α} {x : Lit} (ha : keyOf P k (enc a) = some x) {v : Value} (hg : ∀ u, kget l a = some u → u = v) :
    ∃ w', (Instr.mapUpdate t (.map (some b)) (enc a) v).run P w = .ok () w' ∧ KMapAt P k enc w' b (putK l a v) ∧ w.grownBy w' (some b) ∧ w'.heap.size = w.heap.size := by
  unfold putK
  cases hk : kget l a with
  | none => exact run_update_new ht K inj h hnd ha hk v
  | some u =>
    obtain rfl := hg u hk
    exact run_update_old ht K inj h hnd ha hk
section
variable {ops : Array Oper} {Q : Exit → Act → World → Prop} {dst : Option Tmp} {ty : TypeId} {pos : String} {after : Array Edge} {gd : Option (Nat × Bool)} {ρ : Operand → Value} {R : Value → World → Prop} {a : Act} {rest : List Oper}
theorem ok_put {m x y : Operand} {b : Nat} {l : List (α × Value)} {a : α} {u : Lit} {v : Value} (ht : P.underlying t = some (.map k e)) (K : Maps.Keyed P k) (inj : ∀ a b, enc a = enc b → a = b)
    (hm : ρ m = .map (some b)) (hx : ρ x = enc a) (hy : ρ y = v) (h : KMapAt P k enc w b l) (hnd : (l.map Prod.fst).Nodup) (ha : keyOf P k (enc a) = some u) (hg : ∀ u, kget l a = some u → u = v)
    (hR : ∀ w', KMapAt P k enc w' b (putK l a v) → w.grownBy w' (some b) → w'.heap.size = w.heap.size → R undef w') : Any.OpOk P ⟨dst, .mapUpdate t m x y, ty, pos, after, gd⟩ ρ w R := by
  obtain ⟨w', hr, h1, h2, h3⟩ := run_put ht K inj h hnd ha hg
  unfold Any.OpOk
  simp [execOp, hm, hx, hy, hr, Result.andThen]
  exact hR w' h1 h2 h3
theorem wpl_put {m x y : Operand} {b : Nat} {l : List (α × Value)} {key : α} {u : Lit} {v : Value} (hw : Region.wanted ⟨dst, .mapUpdate t m x y, ty, pos, after, gd⟩ (yielded ops a.tmps) = true)
    (hm : a.eval m = .map (some b)) (hx : a.eval x = enc key) (hy : a.eval y = v) (ht : P.underlying t = some (.map k e)) (K : Maps.Keyed P k) (inj : ∀ a b, enc a = enc b → a = b)
    (h : KMapAt P k enc w b l) (hnd : (l.map Prod.fst).Nodup) (ha : keyOf P k (enc key) = some u) (hg : ∀ u, kget l key = some u → u = v) (hR : ∀ w', KMapAt P k enc w' b (putK l key v) → w.grownBy w' (some b) → w'.heap.size = w.heap.size → wpList P ops Q rest (a.put dst undef) w') : wpList P ops Q (⟨dst, .mapUpdate t m x y, ty, pos, after, gd⟩ :: rest) a w :=
  Any.wpl hw (ok_put ht K inj hm hx hy h hnd ha hg hR)
omit [DecidableEq α] in
theorem Likes.length : ∀ {es : List MapEntry} {l : List (α × Value)}, Likes enc es l → es.length = l.length
  | [], [], _ => rfl
  | _ :: _, _ :: _, h => congrArg (· + 1) (Likes.length h.2)
omit [DecidableEq α] in
theorem run_lenK (ht : P.underlying t = some (.map k e)) {b : Nat} {l : List (α × Value)} (h : KMapAt P k enc w b l) (ty : TypeId) : (Builtin.len_ #[t] ty #[.map (some b)]).run P w = .ok (.int .i64 l.length) w := by
  obtain ⟨es, clock, hb, hf, _⟩ := h
  have := Likes.length hf
  simp at this
  simp [Builtin.len_, run_underlying ht, MapKept.run_getObj_map hb, this, goInt]
omit [DecidableEq α] in
theorem wpl_lenK {x : Operand} {b : Nat} {l : List (α × Value)} (hw : Region.wanted ⟨dst, .call ⟨.builtin .len, #[x], #[t]⟩, ty, pos, after, gd⟩ (yielded ops a.tmps) = true)
    (hx : a.eval x = .map (some b)) (ht : P.underlying t = some (.map k e)) (h : KMapAt P k enc w b l) (hR : wpList P ops Q rest (a.put dst (.int .i64 l.length)) w) : wpList P ops Q (⟨dst, .call ⟨.builtin .len, #[x], #[t]⟩, ty, pos, after, gd⟩ :: rest) a w :=
  Any.wpl hw (by
    have hr := run_lenK (P := P) ht h ty
    unfold Any.OpOk
    simp [execOp, resolve, invoke, builtin, hx, hr, Result.andThen]
    exact hR)
end
end Go.Proofs.YtogkggmaibeboaaDoor.Km
