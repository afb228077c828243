/- Maps keyed by texts, whatever their elements are: a map's block told as a row of keys and elements. No program in sight. What stays while some blocks may be written: a frame told by the blocks that may turn. No program in sight. -/
import Derived.Test.YtnbhneeohkfocaaDoorTo02
import Derived.Maps.OwnOps
import Derived.Maps.OwnSet
import Derived.Maps.RangeWalk
namespace Go.Proofs.YtnbhneeohkfocaaDoor.Mp
open Go Go.RowKit
set_option maxRecDepth 100000

abbrev Ents := List (ByteArray × Value)

def mget : Ents → ByteArray → Option Value
  | [], _ => none
  | p :: r, k => if k = p.1 then some p.2 else mget r k
def mput : Ents → ByteArray → Value → Ents
  | [], k, v => [(k, v)]
  | p :: r, k, v => if k = p.1 then (p.1, v) :: r else p :: mput r k v
def mdel (l : Ents) (k : ByteArray) : Ents := l.filter fun p => !decide (k = p.1)
def mkeys (l : Ents) : List ByteArray := l.map Prod.fst
def mfind : Ents → ByteArray → Nat → Option (Nat × Value)
  | [], _, _ => none
  | p :: r, k, i => if k = p.1 then some (i, p.2) else mfind r k (i + 1)

def Likes : List MapEntry → Ents → Prop
  | [], [] => True
  | e :: es, p :: l => (e.key = .string p.1 ∧ e.val = p.2) ∧ Likes es l
  | _, _ => False
theorem Likes.mem : ∀ {es : List MapEntry} {l : Ents}, Likes es l → ∀ e ∈ es, ∃ p ∈ l, e.key = .string p.1 ∧ e.val = p.2
  | [], [], _, e, he => by cases he
  | e :: es, p :: l, h, x, hx => by
    rcases List.mem_cons.1 hx with rfl | hx
    · exact ⟨p, List.mem_cons_self, h.1⟩
    · obtain ⟨q, hq, r⟩ := Likes.mem h.2 x hx
      exact ⟨q, List.mem_cons_of_mem _ hq, r⟩
theorem Likes.length : ∀ {es : List MapEntry} {l : Ents}, Likes es l → es.length = l.length
  | [], [], _ => rfl
  | _ :: _, _ :: _, h => by simp [Likes.length h.2]
theorem Likes.snoc : ∀ {es : List MapEntry} {l : Ents} {e : MapEntry} {p : ByteArray × Value}, Likes es l → e.key = .string p.1 → e.val = p.2 → Likes (es ++ [e]) (l ++ [p])
  | [], [], _, _, _, h1, h2 => ⟨⟨h1, h2⟩, trivial⟩
  | _ :: _, _ :: _, _, _, h, h1, h2 => ⟨h.1, Likes.snoc h.2 h1 h2⟩
/-- Block b of w is a map of just these entries. -/
def MapAt (w : World) (b : Nat) (l : Ents) : Prop :=
  ∃ es clock, w.heap[b]? = some (.map es clock) ∧ Likes es.toList l ∧ (es.toList.map MapEntry.born).Nodup ∧ (∀ e ∈ es.toList, e.born < clock) ∧ (mkeys l).Nodup

theorem MapAt.lt {w : World} {b : Nat} {l : Ents} (h : MapAt w b l) : b < w.heap.size := by
  obtain ⟨es, clock, hb, _⟩ := h
  exact (Array.getElem?_eq_some_iff.1 hb).1
theorem MapAt.nodup {w : World} {b : Nat} {l : Ents} (h : MapAt w b l) : (mkeys l).Nodup := by
  obtain ⟨_, _, _, _, _, _, hn⟩ := h
  exact hn
theorem MapAt.same {w w' : World} {b : Nat} {l : Ents} (h : MapAt w b l) (he : w'.heap[b]? = w.heap[b]?) : MapAt w' b l := by
  obtain ⟨es, clock, hb, r⟩ := h
  exact ⟨es, clock, he.trans hb, r⟩
theorem MapAt.made (w : World) : MapAt (w.alloc (.map #[] 0)) w.heap.size [] := ⟨#[], 0, heap_alloc_new w _, trivial, by simp, by simp, by simp [mkeys]⟩

theorem mget_none {l : Ents} {k : ByteArray} : mget l k = none ↔ k ∉ mkeys l := by
  induction l with
  | nil => simp [mget, mkeys]
  | cons p r ih =>
    simp only [mkeys] at ih
    simp only [mget, mkeys, List.map_cons, List.mem_cons]
    by_cases h : k = p.1
    · simp [h]
    · simp [h, ih]
theorem mput_keys_old : ∀ {l : Ents} {k : ByteArray} (v : Value), k ∈ mkeys l → mkeys (mput l k v) = mkeys l
  | [], _, _, h => by simp [mkeys] at h
  | p :: r, k, v, h => by
    by_cases hk : k = p.1
    · simp [mput, mkeys, hk]
    · have hr : k ∈ mkeys r := by
        simp only [mkeys, List.map_cons, List.mem_cons, hk, false_or] at h
        exact h
      have ih := mput_keys_old v hr
      simp only [mkeys] at ih
      simp only [mput, hk, if_false, mkeys, List.map_cons, ih]
theorem mput_new : ∀ {l : Ents} {key : ByteArray} (v : Value), key ∉ mkeys l → mput l key v = l ++ [(key, v)]
  | [], _, _, _ => rfl
  | p :: r, key, v, h => by
    simp only [mkeys, List.map_cons, List.mem_cons, not_or] at h
    simp only [mput, h.1, if_false, List.cons_append]
    rw [mput_new v h.2]
theorem mput_keys_new {l : Ents} {k : ByteArray} (v : Value) (h : k ∉ mkeys l) : mkeys (mput l k v) = mkeys l ++ [k] := by rw [mput_new v h]; simp [mkeys]
theorem mget_mput_same (l : Ents) (k : ByteArray) (v : Value) : mget (mput l k v) k = some v := by
  induction l with
  | nil => simp [mput, mget]
  | cons p r ih =>
    by_cases h : k = p.1
    · simp only [mput, h, if_true, mget]
    · simp only [mput, h, if_false, mget, ih]
theorem mget_mput_other (l : Ents) {k k' : ByteArray} (v : Value) (hk : k' ≠ k) : mget (mput l k v) k' = mget l k' := by
  induction l with
  | nil => simp [mput, mget, hk]
  | cons p r ih =>
    by_cases h : k = p.1
    · have : ¬ k' = p.1 := fun e => hk (e.trans h.symm)
      simp only [mput, h, if_true, mget, this, if_false]
    · simp only [mput, h, if_false, mget, ih]
theorem mput_nodup {l : Ents} (k : ByteArray) (v : Value) (h : (mkeys l).Nodup) : (mkeys (mput l k v)).Nodup := by
  by_cases hk : k ∈ mkeys l
  · rw [mput_keys_old v hk]; exact h
  · rw [mput_keys_new v hk]
    exact List.nodup_append.2 ⟨h, by simp, fun a ha b hb => by rw [List.mem_singleton.1 hb]; rintro rfl; exact hk ha⟩
theorem mput_length_le (l : Ents) (k : ByteArray) (v : Value) : (mput l k v).length ≤ l.length + 1 := by
  by_cases hk : k ∈ mkeys l
  · have := congrArg List.length (mput_keys_old v hk)
    simp only [mkeys, List.length_map] at this
    omega
  · rw [mput_new v hk]; simp
theorem mem_of_mget {l : Ents} {k : ByteArray} {v : Value} (h : mget l k = some v) : (k, v) ∈ l := by
  induction l with
  | nil => simp [mget] at h
  | cons p r ih =>
    by_cases hk : k = p.1
    · simp only [mget, hk, if_true, Option.some.injEq] at h
      subst hk; subst h
      exact List.mem_cons_self
    · simp only [mget, hk, if_false] at h
      exact List.mem_cons_of_mem _ (ih h)
theorem mget_of_mem {l : Ents} {k : ByteArray} {v : Value} (hn : (mkeys l).Nodup) (h : (k, v) ∈ l) : mget l k = some v := by
  induction l with
  | nil => simp at h
  | cons p r ih =>
    simp only [mkeys, List.map_cons, List.nodup_cons] at hn
    rcases List.mem_cons.1 h with rfl | h
    · simp [mget]
    · have : ¬ k = p.1 := fun e => hn.1 (List.mem_map.2 ⟨_, h, e⟩)
      simp only [mget, this, if_false]
      exact ih hn.2 h

theorem mfind_get : ∀ (l : Ents) (k : ByteArray) (i : Nat), (mfind l k i).map Prod.snd = mget l k
  | [], _, _ => rfl
  | p :: r, k, i => by
    by_cases h : k = p.1
    · simp [mfind, mget, h]
    · simp [mfind, mget, h, mfind_get r k (i + 1)]

theorem bytes_ne {a b : ByteArray} (h : ¬ a = b) : (a == b) = false := by
  cases hb : a == b with
  | false => rfl
  | true => exact absurd ((MapKept.bytes_beq _ _).1 hb) h
theorem findNow_ents {k : ByteArray} : ∀ {es : List MapEntry} {l : Ents}, Likes es l → ∀ i, Instr.findNow .string (.string k) es i = some (mfind l k i)
  | [], [], _, _ => rfl
  | e :: es, p :: l, h, i => by
    obtain ⟨⟨h1, h2⟩, hr⟩ := h
    have ih := findNow_ents (k := k) hr (i + 1)
    simp only [Instr.findNow, h1, Instr.sameNow, mfind]
    by_cases hk : k = p.1
    · rw [(MapKept.bytes_beq _ _).2 hk, if_pos hk, h2]
    · rw [bytes_ne hk, if_neg hk]
      exact ih

def look (c : Bool) (r : Option Value) (z : Value) : Value :=
  match c, r with
  | true, some v => .tuple #[v, .bool true]
  | true, none => .tuple #[z, .bool false]
  | false, some v => v
  | false, none => z

theorem run_checkKey_string {P : Program} {w : World} {k : TypeId} (hk : P.underlying k = some .string) (s : ByteArray) (e : Bool) : (Instr.checkKey e 10000 k (.string s)).run P w = .ok () w := by
  exact MapKept.run_checkKey hk (by trivial) e 9999

section
variable {P : Program} {w : World} {t k e : TypeId}
theorem run_findKey (hk : P.underlying k = some .string) {es : List MapEntry} {l : Ents} (h : Likes es l) (key : ByteArray) : (Instr.findKey k (.string key) es).run P w = .ok (mfind l key 0) w := by
  exact MapKept.run_findKey hk (findNow_ents h 0)

theorem run_lookup (ht : P.underlying t = some (.map k e)) (hk : P.underlying k = some .string) {z : Value} (hz : (zeroValue e).run P w = .ok z w) {b : Nat} {l : Ents} (h : MapAt w b l) (key : ByteArray) (c : Bool) :
    (Instr.lookup t (.map (some b)) (.string key) c).run P w = .ok (look c (mget l key) z) w := by
  obtain ⟨es, clock, hb, hf, _⟩ := h
  have hg := mfind_get l key 0
  cases hm : mfind l key 0 with
  | none =>
    rw [hm] at hg
    simp [Instr.lookup, run_underlying ht, MapKept.run_getObj_map hb, run_checkKey_string hk, run_findKey hk hf, hm, hz, ← hg]
    cases c <;> rfl
  | some r =>
    rw [hm] at hg
    simp [Instr.lookup, run_underlying ht, MapKept.run_getObj_map hb, run_checkKey_string hk, run_findKey hk hf, hm, ← hg]
    cases c <;> rfl
end

/-- The entry that is found is written; or one more is laid. -/
theorem likes_found : ∀ {es : List MapEntry} {l : Ents} {key : ByteArray} {v : Value} {i j : Nat} {v0 : Value}, Likes es l → mfind l key i = some (j, v0) →
    i ≤ j ∧ (∃ e, es[j - i]? = some e ∧ e.key = .string key) ∧ Likes (es.modify (j - i) fun e => { e with key := .string key, val := v }) (mput l key v)
  | [], [], _, _, _, _, _, _, hm => by cases hm
  | e :: es, p :: l, key, v, i, j, v0, h, hm => by
    by_cases hk : key = p.1
    · simp only [mfind, hk, if_true, Option.some.injEq, Prod.mk.injEq] at hm
      obtain ⟨rfl, rfl⟩ := hm
      refine ⟨Nat.le_refl _, ⟨e, by simp, by rw [h.1.1, hk]⟩, ?_⟩
      simp only [Nat.sub_self, List.modify_zero_cons, mput, hk, if_true]
      exact ⟨⟨rfl, rfl⟩, h.2⟩
    · simp only [mfind, hk, if_false] at hm
      obtain ⟨h1, ⟨e', h2, h3⟩, h4⟩ := likes_found (v := v) h.2 hm
      have hj : j - i = (j - (i + 1)) + 1 := by omega
      refine ⟨by omega, ⟨e', by rw [hj, List.getElem?_cons_succ]; exact h2, h3⟩, ?_⟩
      rw [hj, List.modify_succ_cons, mput, if_neg hk]
      exact ⟨h.1, h4⟩
theorem mfind_none {l : Ents} {key : ByteArray} : ∀ {i : Nat}, mfind l key i = none → key ∉ mkeys l := by
  intro i h
  have := mfind_get l key i
  rw [h] at this
  exact mget_none.1 this.symm
theorem map_born_modify (es : List MapEntry) (j : Nat) (k v : Value) : (es.modify j fun e => { e with key := k, val := v }).map MapEntry.born = es.map MapEntry.born := by
  apply List.ext_getElem?
  intro i
  simp only [List.getElem?_map, List.getElem?_modify]
  cases es[i]? with
  | none => rfl
  | some e => simp only [Option.map_some]; split <;> rfl

section
variable {P : Program} {w : World} {t k e : TypeId}
theorem run_update (ht : P.underlying t = some (.map k e)) (hk : P.underlying k = some .string) {b : Nat} {l : Ents} (h : MapAt w b l) (key : ByteArray) (v : Value) :
    ∃ w', (Instr.mapUpdate t (.map (some b)) (.string key) v).run P w = .ok () w' ∧ MapAt w' b (mput l key v) ∧ w.grownBy w' (some b) ∧ w'.heap.size = w.heap.size := by
  obtain ⟨es, clock, hb, hf, hn, hc, hd⟩ := h
  have hgrow : ∀ o, w.grownBy (ChangeMaps.setBlock w b o) (some b) := fun o => ⟨rfl, rfl, rfl, by simp [ChangeMaps.setBlock], fun i _ hi => ChangeMaps.heap_setBlock_other hb _ (fun e => hi (by rw [e]))⟩
  have hsize : ∀ o, (ChangeMaps.setBlock w b o).heap.size = w.heap.size := fun o => by simp [ChangeMaps.setBlock]
  cases hm : mfind l key 0 with
  | none =>
    refine ⟨ChangeMaps.setBlock w b (.map (es.push ⟨.string key, v, clock⟩) (clock + 1)), ?_, ⟨_, _, ChangeMaps.heap_setBlock_same hb _, ?_, ?_, ?_, mput_nodup key v hd⟩, hgrow _, hsize _⟩
    · simp [Instr.mapUpdate, run_underlying ht, MapKept.run_getObj_map hb, run_checkKey_string hk, run_findKey hk hf, hm, MapKept.run_setObj_map _ hb, Result.andThen, ChangeMaps.setBlock]
    · rw [mput_new v (mfind_none hm), Array.toList_push]
      exact hf.snoc rfl rfl
    · rw [Array.toList_push, List.map_append, List.nodup_append]
      refine ⟨hn, by simp, fun a ha x hx => ?_⟩
      obtain ⟨e, he, rfl⟩ := List.mem_map.1 ha
      have := hc e he
      simp only [List.map_cons, List.map_nil, List.mem_singleton] at hx
      omega
    · intro e he
      rw [Array.toList_push, List.mem_append] at he
      rcases he with he | he
      · have := hc e he; omega
      · simp only [List.mem_singleton] at he
        subst he
        exact Nat.lt_succ_self _
  | some r =>
    obtain ⟨j, v0⟩ := r
    obtain ⟨_, ⟨e0, h2, h3⟩, h4⟩ := likes_found (v := v) hf hm
    rw [Nat.sub_zero] at h2 h4
    have hj : es[j]? = some e0 := by simpa using h2
    refine ⟨ChangeMaps.setBlock w b (.map (es.modify j fun e => { e with key := .string key, val := v }) clock), ?_, ⟨_, _, ChangeMaps.heap_setBlock_same hb _, ?_, ?_, ?_, mput_nodup key v hd⟩, hgrow _, hsize _⟩
    · simp [Instr.mapUpdate, run_underlying ht, MapKept.run_getObj_map hb, run_checkKey_string hk, run_findKey hk hf, hm, hj, h3, MapKept.run_keyThatStays (k := .string key) (d := .string) (by trivial), MapKept.run_setObj_map _ hb, Result.andThen, ChangeMaps.setBlock]
    · rw [Array.toList_modify]; exact h4
    · rw [Array.toList_modify, map_born_modify]; exact hn
    · intro e he
      rw [Array.toList_modify] at he
      have : e.born ∈ es.toList.map MapEntry.born := by rw [← map_born_modify es.toList j (.string key) v]; exact List.mem_map_of_mem he
      obtain ⟨e', he', hb'⟩ := List.mem_map.1 this
      have := hc e' he'
      omega

theorem run_eql_nilslice (ht : P.underlying t = some (.slice e)) (w : World) (a : Option Addr) (n c : Nat) : (binOp .eql t (.slice a n c) (.slice none 0 0)).run P w = .ok (.bool a.isNone) w := by
  have h1 : (Op.equalIn (9999 + 1) t (.slice a n c) (.slice none 0 0)).run P w = .ok a.isNone w := by
    unfold Op.equalIn
    cases a <;> simp [run_underlying ht]
  simp only [binOp]
  simp [show Op.equal t (.slice a n c) (.slice none 0 0) = Op.equalIn (9999 + 1) t (.slice a n c) (.slice none 0 0) from rfl, h1]
theorem run_eql_nilmap (ht : P.underlying t = some (.map k e)) (w : World) (r : Option Nat) : (binOp .eql t (.map r) (.map none)).run P w = .ok (.bool r.isNone) w := by
  have h1 : (Op.equalIn (9999 + 1) t (.map r) (.map none)).run P w = .ok r.isNone w := by
    unfold Op.equalIn
    cases r <;> simp [run_underlying ht]
  simp only [binOp]
  simp [show Op.equal t (.map r) (.map none) = Op.equalIn (9999 + 1) t (.map r) (.map none) from rfl, h1]
theorem run_len_map {ts : Array TypeId} (ht : P.underlying t = some (.map k e)) (hts : ts = #[t]) {b : Nat} {l : Ents} (h : MapAt w b l) (ty : TypeId) : (Builtin.len_ ts ty #[.map (some b)]).run P w = .ok (.int .i64 l.length) w := by
  subst hts
  obtain ⟨es, clock, hb, hf, _⟩ := h
  have := hf.length
  simp at this
  simp [Builtin.len_, run_underlying ht, MapKept.run_getObj_map hb, this, goInt]
end

/-! A range over a map: the entries come in whatever order. -/
/-- Block r is an iterator over the map of block b; these entries are still to come. -/
def IterAt (w : World) (r b : Nat) (l todo : Ents) : Prop :=
  ∃ es clock since seen c0, w.heap[r]? = some (.mapIter (some b) since seen c0) ∧ w.heap[b]? = some (.map es clock) ∧ Likes es.toList l ∧ (es.toList.map MapEntry.born).Nodup ∧ (mkeys l).Nodup ∧
    (∀ e ∈ es.toList, e.born < since) ∧ since ≤ c0 ∧ since ≤ clock ∧ Likes (leftOf es seen).toList todo

theorem IterAt.lt {w : World} {r b : Nat} {l todo : Ents} (h : IterAt w r b l todo) : r < w.heap.size ∧ b < w.heap.size := by
  obtain ⟨es, clock, since, seen, c0, hr, hb, _⟩ := h
  exact ⟨(Array.getElem?_eq_some_iff.1 hr).1, (Array.getElem?_eq_some_iff.1 hb).1⟩
theorem IterAt.ne {w : World} {r b : Nat} {l todo : Ents} (h : IterAt w r b l todo) : r ≠ b := by
  obtain ⟨es, clock, since, seen, c0, hr, hb, _⟩ := h
  rintro rfl
  rw [hr] at hb
  cases hb
theorem IterAt.same {w w' : World} {r b : Nat} {l todo : Ents} (h : IterAt w r b l todo) (h1 : w'.heap[r]? = w.heap[r]?) (h2 : w'.heap[b]? = w.heap[b]?) : IterAt w' r b l todo := by
  obtain ⟨es, clock, since, seen, c0, hr, hb, rest⟩ := h
  exact ⟨es, clock, since, seen, c0, h1.trans hr, h2.trans hb, rest⟩

theorem Likes.strike : ∀ {es : List MapEntry} {l : Ents} {e : MapEntry} {key : ByteArray}, Likes es l → (∀ x ∈ es, x.born = e.born ↔ x.key = .string key) →
    Likes (es.filter fun x => !(x.born == e.born)) (mdel l key)
  | [], [], _, _, _, _ => trivial
  | x :: es, p :: l, e, key, h, hb => by
    have ih := Likes.strike (e := e) (key := key) h.2 (fun y hy => hb y (List.mem_cons_of_mem _ hy))
    have hx := hb x List.mem_cons_self
    rw [h.1.1, Value.string.injEq] at hx
    by_cases hk : key = p.1
    · have h1 : x.born = e.born := hx.2 hk.symm
      have e1 : (!(x.born == e.born)) = false := by simp [h1]
      have e2 : (!decide (key = p.1)) = false := by simp [hk]
      simp only [List.filter_cons, e1, Bool.false_eq_true, if_false, mdel, e2]
      exact ih
    · have h1 : ¬ x.born = e.born := fun q => hk (hx.1 q).symm
      have e1 : (!(x.born == e.born)) = true := by simp [h1]
      have e2 : (!decide (key = p.1)) = true := by simp [hk]
      simp only [List.filter_cons, e1, if_true, mdel, e2]
      exact ⟨h.1, ih⟩

theorem born_key {es : List MapEntry} {l : Ents} (h : Likes es l) (hn : (es.map MapEntry.born).Nodup) (hk : (mkeys l).Nodup) {e : MapEntry} {key : ByteArray} (he : e ∈ es) (hek : e.key = .string key) :
    ∀ x ∈ es, x.born = e.born ↔ x.key = .string key := by
  induction es generalizing l with
  | nil => cases he
  | cons y es ih =>
    cases l with
    | nil => exact h.elim
    | cons p l =>
      simp only [List.map_cons, List.nodup_cons, mkeys] at hn hk
      have hfar : ∀ x ∈ es, x.key ≠ .string p.1 := fun x hx q => by
        obtain ⟨p', hp', h1, _⟩ := h.2.mem x hx
        rw [q, Value.string.injEq] at h1
        exact hk.1 (List.mem_map.2 ⟨p', hp', h1.symm⟩)
      have hnb : ∀ x ∈ es, x.born ≠ y.born := fun x hx q => hn.1 (List.mem_map.2 ⟨x, hx, q⟩)
      intro x hx
      rcases List.mem_cons.1 he with rfl | he' <;> rcases List.mem_cons.1 hx with rfl | hx'
      · exact ⟨fun _ => hek, fun _ => rfl⟩
      · have hkey : key = p.1 := by have := hek; rw [h.1.1, Value.string.injEq] at this; exact this.symm
        subst hkey
        exact ⟨fun q => absurd q (hnb x hx'), fun q => absurd q (hfar x hx')⟩
      · constructor
        · exact fun q => absurd q.symm (hnb e he')
        · intro q
          rw [h.1.1] at q
          rw [← hek] at q
          exact absurd (q.symm.trans rfl) (hfar e he')
      · exact ih h.2 hn.2 hk.2 he' x hx'

section
variable {P : Program} {w : World} {t k e : TypeId}
theorem run_range (ht : P.underlying t = some (.map k e)) {b : Nat} {l : Ents} (h : MapAt w b l) :
    ∃ w', (Instr.range t (.map (some b))).run P w = .ok (.pointer (some ⟨w.heap.size, 0, none⟩)) w' ∧ IterAt w' w.heap.size b l l ∧ ∃ o, w' = w.alloc o := by
  obtain ⟨es, clock, hb, hf, hn, hc, hd⟩ := h
  refine ⟨w.alloc (.mapIter (some b) clock #[] clock), ?_, ⟨es, clock, clock, #[], clock, heap_alloc_new w _, ?_, hf, hn, hd, hc, Nat.le_refl _, Nat.le_refl _, ?_⟩, ⟨_, rfl⟩⟩
  · simp [Instr.range, run_underlying ht, MapKept.run_getObj_map hb]
  · rw [MapKept.heap_alloc w _ |>.2 b (Array.getElem?_eq_some_iff.1 hb).1]; exact hb
  · have : leftOf es #[] = es := by unfold leftOf; exact Array.filter_eq_self.2 (by simp)
    rw [this]; exact hf

theorem run_next (ty : TypeId) {r b : Nat} {l todo : Ents} (h : IterAt w r b l todo) :
    (todo = [] ∧ (Instr.next (.pointer (some ⟨r, 0, none⟩)) false ty).run P w = .ok (.tuple #[.bool false]) w) ∨
    ∃ p ∈ todo, ∃ w', (Instr.next (.pointer (some ⟨r, 0, none⟩)) false ty).run P w = .ok (.tuple #[.bool true, .string p.1, p.2]) w' ∧ IterAt w' r b l (mdel todo p.1) ∧ w.grownBy w' (some r) ∧ w'.heap.size = w.heap.size ∧
      (Instr.entry (.pointer (some ⟨r, 0, none⟩))).run P w' = .ok (.tuple #[.string p.1, p.2]) w' := by
  have hne := h.ne
  obtain ⟨es, clock, since, seen, c0, hr, hb, hf, hn, hd, hlt, hs, hsc, hl⟩ := h
  rcases run_next_at (P := P) w ty r b since c0 seen es clock hr hb hlt hs with ⟨h0, hrun⟩ | ⟨x, hx, w1, hw1, hrun⟩
  · refine .inl ⟨?_, hrun⟩
    have := hl.length
    rw [Array.length_toList, h0] at this
    exact List.eq_nil_of_length_eq_zero this.symm
  · obtain ⟨p, hp, h1, h2⟩ := hl.mem x hx
    have hxe : x ∈ es.toList := by
      have : x ∈ (leftOf es seen).toList := hx
      unfold leftOf at this
      rw [Array.toList_filter] at this
      exact (List.mem_filter.1 this).1
    have hr1 : w1.heap[r]? = some (.mapIter (some b) since seen c0) := by rcases hw1 with rfl | rfl <;> exact hr
    have hb1 : w1.heap[b]? = some (.map es clock) := by rcases hw1 with rfl | rfl <;> exact hb
    have hrl : r < w1.heap.size := (Array.getElem?_eq_some_iff.1 hr1).1
    have hr2 : (ChangeMaps.setBlock w1 r (.mapIter (some b) since (seen.push x.born) clock)).heap[r]? = some (.mapIter (some b) since (seen.push x.born) clock) := by simp [ChangeMaps.setBlock, hrl]
    have hb2 : (ChangeMaps.setBlock w1 r (.mapIter (some b) since (seen.push x.born) clock)).heap[b]? = some (.map es clock) := by
      rw [← hb1]; simp [ChangeMaps.setBlock, hne]
    refine .inr ⟨p, hp, ChangeMaps.setBlock w1 r (.mapIter (some b) since (seen.push x.born) clock), ?_, ⟨es, clock, since, seen.push x.born, clock, hr2, hb2, hf, hn, hd, hlt, hsc, hsc, ?_⟩, ?_, ?_, ?_⟩
    · rw [hrun, h1, h2]
    · have e1 : (leftOf es (seen.push x.born)).toList = (leftOf es seen).toList.filter fun y => !(y.born == x.born) := by
        unfold leftOf
        rw [Array.toList_filter, Array.toList_filter, List.filter_filter]
        refine List.filter_congr fun y _ => ?_
        by_cases h3 : y.born = x.born <;> by_cases h4 : y.born ∈ seen <;> simp [h3, h4]
        all_goals simp_all
      rw [e1]
      refine hl.strike fun y hy => born_key hf hn hd hxe h1 y ?_
      have : y ∈ (leftOf es seen).toList := hy
      unfold leftOf at this
      rw [Array.toList_filter] at this
      exact (List.mem_filter.1 this).1
    · refine ⟨by rcases hw1 with rfl | rfl <;> rfl, by rcases hw1 with rfl | rfl <;> rfl, by rcases hw1 with rfl | rfl <;> rfl, by rcases hw1 with rfl | rfl <;> simp [ChangeMaps.setBlock], ?_⟩
      intro i hi hir
      have : i ≠ r := fun q => hir (by rw [q])
      rcases hw1 with rfl | rfl
      · simp [ChangeMaps.setBlock, Ne.symm this]
      · simp [ChangeMaps.setBlock, Ne.symm this]; rfl
    · rcases hw1 with rfl | rfl <;> simp [ChangeMaps.setBlock]
    · have := run_entry_at (P := P) _ r b since seen es clock x hr2 hb2 hxe hn
      rw [h1, h2] at this
      exact this
end

section
variable {P : Program} {ops : Array Oper} {Q : Exit → Act → World → Prop} {dst : Option Tmp} {t k e ty : TypeId} {pos : String} {after : Array Edge} {gd : Option (Nat × Bool)} {ρ : Operand → Value} {w : World} {R : Value → World → Prop}
theorem ok_lookup {m x : Operand} {c : Bool} {z : Value} {b : Nat} {l : Ents} {key : ByteArray} (ht : P.underlying t = some (.map k e)) (hk : P.underlying k = some .string) (hz : (zeroValue e).run P w = .ok z w)
    (hm : ρ m = .map (some b)) (hx : ρ x = .string key) (h : MapAt w b l) (hR : R (look c (mget l key) z) w) : Any.OpOk P ⟨dst, .lookup t m x c, ty, pos, after, gd⟩ ρ w R := by
  have hr := run_lookup ht hk hz h key c
  unfold Any.OpOk
  simp [execOp, hm, hx, hr, Result.andThen]
  exact hR
theorem ok_update {m x y : Operand} {b : Nat} {l : Ents} {key : ByteArray} {v : Value} (ht : P.underlying t = some (.map k e)) (hk : P.underlying k = some .string)
    (hm : ρ m = .map (some b)) (hx : ρ x = .string key) (hy : ρ y = v) (h : MapAt w b l) (hR : ∀ w', MapAt w' b (mput l key v) → w.grownBy w' (some b) → w'.heap.size = w.heap.size → R undef w') : Any.OpOk P ⟨dst, .mapUpdate t m x y, ty, pos, after, gd⟩ ρ w R := by
  obtain ⟨w', hr, h1, h2, h3⟩ := run_update ht hk h key v
  unfold Any.OpOk
  simp [execOp, hm, hx, hy, hr, Result.andThen]
  exact hR w' h1 h2 h3
theorem ok_len {x : Operand} {b : Nat} {l : Ents} (ht : P.underlying t = some (.map k e)) (hx : ρ x = .map (some b)) (h : MapAt w b l) (hR : R (.int .i64 l.length) w) :
    Any.OpOk P ⟨dst, .call ⟨.builtin .len, #[x], #[t]⟩, ty, pos, after, gd⟩ ρ w R := by
  have hr := run_len_map (P := P) (ts := #[t]) ht rfl h ty
  unfold Any.OpOk
  simp [execOp, resolve, invoke, builtin, hx, hr, Result.andThen]
  exact hR
theorem ok_range {m : Operand} {b : Nat} {l : Ents} (ht : P.underlying t = some (.map k e)) (hm : ρ m = .map (some b)) (h : MapAt w b l)
    (hR : ∀ w', IterAt w' w.heap.size b l l → (∃ o, w' = w.alloc o) → R (.pointer (some ⟨w.heap.size, 0, none⟩)) w') : Any.OpOk P ⟨dst, .range t m, ty, pos, after, gd⟩ ρ w R := by
  obtain ⟨w', hr, h1, h2⟩ := run_range (P := P) ht h
  unfold Any.OpOk
  simp [execOp, hm, hr, Result.andThen]
  exact hR w' h1 h2
theorem ok_next {it : Operand} {r b : Nat} {l todo : Ents} (hit : ρ it = .pointer (some ⟨r, 0, none⟩)) (h : IterAt w r b l todo) (hDone : todo = [] → R (.tuple #[.bool false]) w)
    (hMore : ∀ (key : ByteArray) (v : Value) (w' : World), (key, v) ∈ todo → IterAt w' r b l (mdel todo key) → w.grownBy w' (some r) → w'.heap.size = w.heap.size →
      (Instr.entry (.pointer (some ⟨r, 0, none⟩))).run P w' = .ok (.tuple #[.string key, v]) w' → R (.tuple #[.bool true, .string key, v]) w') : Any.OpOk P ⟨dst, .next it false, ty, pos, after, gd⟩ ρ w R := by
  unfold Any.OpOk
  rcases run_next (P := P) ty h with ⟨h0, hr⟩ | ⟨p, hp, w', hr, h1, h2, h3, h4⟩
  · simp [execOp, hit, hr, Result.andThen]
    exact hDone h0
  · simp [execOp, hit, hr, Result.andThen]
    exact hMore p.1 p.2 w' hp h1 h2 h3 h4

variable {a : Act} {rest : List Oper}
theorem wpl_lookup {m x : Operand} {c : Bool} {z : Value} {b : Nat} {l : Ents} {key : ByteArray} (hw : Region.wanted ⟨dst, .lookup t m x c, ty, pos, after, gd⟩ (yielded ops a.tmps) = true)
    (hm : a.eval m = .map (some b)) (hx : a.eval x = .string key) (ht : P.underlying t = some (.map k e)) (hk : P.underlying k = some .string) (hz : (zeroValue e).run P w = .ok z w)
    (h : MapAt w b l) (hR : wpList P ops Q rest (a.put dst (look c (mget l key) z)) w) : wpList P ops Q (⟨dst, .lookup t m x c, ty, pos, after, gd⟩ :: rest) a w :=
  Any.wpl hw (ok_lookup ht hk hz hm hx h hR)
theorem wpl_got {m x : Operand} {z : Value} {b : Nat} {l : Ents} {key : ByteArray} {v : Value} (hw : Region.wanted ⟨dst, .lookup t m x true, ty, pos, after, gd⟩ (yielded ops a.tmps) = true)
    (hm : a.eval m = .map (some b)) (hx : a.eval x = .string key) (ht : P.underlying t = some (.map k e)) (hk : P.underlying k = some .string) (hz : (zeroValue e).run P w = .ok z w)
    (h : MapAt w b l) (hg : mget l key = some v) (hR : wpList P ops Q rest (a.put dst (.tuple #[v, .bool true])) w) : wpList P ops Q (⟨dst, .lookup t m x true, ty, pos, after, gd⟩ :: rest) a w :=
  wpl_lookup hw hm hx ht hk hz h (by rw [hg]; exact hR)
theorem wpl_miss {m x : Operand} {z : Value} {b : Nat} {l : Ents} {key : ByteArray} (hw : Region.wanted ⟨dst, .lookup t m x true, ty, pos, after, gd⟩ (yielded ops a.tmps) = true)
    (hm : a.eval m = .map (some b)) (hx : a.eval x = .string key) (ht : P.underlying t = some (.map k e)) (hk : P.underlying k = some .string) (hz : (zeroValue e).run P w = .ok z w)
    (h : MapAt w b l) (hg : mget l key = none) (hR : wpList P ops Q rest (a.put dst (.tuple #[z, .bool false])) w) : wpList P ops Q (⟨dst, .lookup t m x true, ty, pos, after, gd⟩ :: rest) a w :=
  wpl_lookup hw hm hx ht hk hz h (by rw [hg]; exact hR)
theorem wpl_val {m x : Operand} {z : Value} {b : Nat} {l : Ents} {key : ByteArray} {v : Value} (hw : Region.wanted ⟨dst, .lookup t m x false, ty, pos, after, gd⟩ (yielded ops a.tmps) = true)
    (hm : a.eval m = .map (some b)) (hx : a.eval x = .string key) (ht : P.underlying t = some (.map k e)) (hk : P.underlying k = some .string) (hz : (zeroValue e).run P w = .ok z w)
    (h : MapAt w b l) (hg : (mget l key).getD z = v) (hR : wpList P ops Q rest (a.put dst v) w) : wpList P ops Q (⟨dst, .lookup t m x false, ty, pos, after, gd⟩ :: rest) a w :=
  wpl_lookup hw hm hx ht hk hz h (by subst hg; cases hgg : mget l key <;> rw [hgg] at hR <;> exact hR)
theorem wpl_update {m x y : Operand} {b : Nat} {l : Ents} {key : ByteArray} {v : Value} (hw : Region.wanted ⟨dst, .mapUpdate t m x y, ty, pos, after, gd⟩ (yielded ops a.tmps) = true)
    (hm : a.eval m = .map (some b)) (hx : a.eval x = .string key) (hy : a.eval y = v) (ht : P.underlying t = some (.map k e)) (hk : P.underlying k = some .string)
    (h : MapAt w b l) (hR : ∀ w', MapAt w' b (mput l key v) → w.grownBy w' (some b) → w'.heap.size = w.heap.size → wpList P ops Q rest (a.put dst undef) w') : wpList P ops Q (⟨dst, .mapUpdate t m x y, ty, pos, after, gd⟩ :: rest) a w :=
  Any.wpl hw (ok_update ht hk hm hx hy h hR)
theorem wpl_len {x : Operand} {b : Nat} {l : Ents} (hw : Region.wanted ⟨dst, .call ⟨.builtin .len, #[x], #[t]⟩, ty, pos, after, gd⟩ (yielded ops a.tmps) = true)
    (hx : a.eval x = .map (some b)) (ht : P.underlying t = some (.map k e)) (h : MapAt w b l) (hR : wpList P ops Q rest (a.put dst (.int .i64 l.length)) w) : wpList P ops Q (⟨dst, .call ⟨.builtin .len, #[x], #[t]⟩, ty, pos, after, gd⟩ :: rest) a w :=
  Any.wpl hw (ok_len ht hx h hR)
theorem wpl_range {m : Operand} {b : Nat} {l : Ents} (hw : Region.wanted ⟨dst, .range t m, ty, pos, after, gd⟩ (yielded ops a.tmps) = true)
    (hm : a.eval m = .map (some b)) (ht : P.underlying t = some (.map k e)) (h : MapAt w b l)
    (hR : ∀ w', IterAt w' w.heap.size b l l → (∃ o, w' = w.alloc o) → wpList P ops Q rest (a.put dst (.pointer (some ⟨w.heap.size, 0, none⟩))) w') : wpList P ops Q (⟨dst, .range t m, ty, pos, after, gd⟩ :: rest) a w :=
  Any.wpl hw (ok_range ht hm h hR)
theorem wpl_next {it : Operand} {r b : Nat} {l todo : Ents} (hw : Region.wanted ⟨dst, .next it false, ty, pos, after, gd⟩ (yielded ops a.tmps) = true) (hit : a.eval it = .pointer (some ⟨r, 0, none⟩))
    (h : IterAt w r b l todo) (hDone : todo = [] → wpList P ops Q rest (a.put dst (.tuple #[.bool false])) w)
    (hMore : ∀ (key : ByteArray) (v : Value) (w' : World), (key, v) ∈ todo → IterAt w' r b l (mdel todo key) → w.grownBy w' (some r) → w'.heap.size = w.heap.size →
      (Instr.entry (.pointer (some ⟨r, 0, none⟩))).run P w' = .ok (.tuple #[.string key, v]) w' → wpList P ops Q rest (a.put dst (.tuple #[.bool true, .string key, v])) w') : wpList P ops Q (⟨dst, .next it false, ty, pos, after, gd⟩ :: rest) a w :=
  Any.wpl hw (ok_next hit h hDone hMore)
end
end Go.Proofs.YtnbhneeohkfocaaDoor.Mp
namespace Go.Proofs.YtnbhneeohkfocaaDoor.Sc
open Go Go.RowKit
set_option maxRecDepth 100000

/-- From w to w' no block has turned but those of F and new ones. -/
structure Keep (F : Nat → Prop) (w w' : World) : Prop where
  os : w'.os = w.os
  tape : w'.tape = w.tape
  output : w'.output = w.output
  size : w.heap.size ≤ w'.heap.size
  block : ∀ k, k < w.heap.size → ¬ F k → w'.heap[k]? = w.heap[k]?

theorem Keep.refl (F : Nat → Prop) (w : World) : Keep F w w := ⟨rfl, rfl, rfl, Nat.le_refl _, fun _ _ _ => rfl⟩
theorem Keep.trans {F G : Nat → Prop} {a b c : World} (h : Keep F a b) (k : Keep G b c) (hG : ∀ i, i < a.heap.size → G i → F i) : Keep F a c :=
  ⟨k.os.trans h.os, k.tape.trans h.tape, k.output.trans h.output, Nat.le_trans h.size k.size, fun i hi hF => (k.block i (Nat.lt_of_lt_of_le hi h.size) (fun g => hF (hG i hi g))).trans (h.block i hi hF)⟩
theorem Keep.mono {F G : Nat → Prop} {a b : World} (h : Keep F a b) (hG : ∀ i, i < a.heap.size → F i → G i) : Keep G a b :=
  ⟨h.os, h.tape, h.output, h.size, fun i hi hF => h.block i hi (fun g => hF (hG i hi g))⟩
theorem Keep.of_below {F : Nat → Prop} {w w' : World} (h : Below w.heap.size w w') : Keep F w w' := ⟨h.os, h.tape, h.output, h.size, fun k hk _ => h.block k hk⟩
theorem Keep.of_grown {w w' : World} {r : Option Nat} (h : w.grownBy w' r) : Keep (fun k => r = some k) w w' := ⟨h.os, h.tape, h.output, h.size, fun k hk hne => h.block k hk (fun e => hne e.symm)⟩
theorem Keep.alloc (F : Nat → Prop) (w : World) (o : Obj) : Keep F w (w.alloc o) := .of_below (one_below w o)
theorem Keep.drew (F : Nat → Prop) (w : World) (n : Nat) : Keep F w (w.drewN n) := ⟨rfl, rfl, rfl, Nat.le_refl _, fun _ _ _ => rfl⟩
theorem Keep.undrew {F : Nat → Prop} {w w' : World} (h : Keep F w.drew w') : Keep F w w' := ⟨h.os, h.tape, h.output, h.size, h.block⟩
theorem Keep.below {F : Nat → Prop} {B : Nat} {w w' : World} (h : Keep F w w') (hB : B ≤ w.heap.size) (hF : ∀ k, k < B → ¬ F k) : Below B w w' := ⟨h.os, h.tape, h.output, h.size, fun k hk => h.block k (Nat.lt_of_lt_of_le hk hB) (hF k hk)⟩
/-- .. behind what lies below B. -/
theorem Keep.behind {F : Nat → Prop} {B : Nat} {a w w' : World} (hb : Below B a w) (h : Keep F w w') (hB : B ≤ w.heap.size) (hF : ∀ k, k < B → ¬ F k) : Below B a w' := hb.trans (h.below hB hF)
theorem Keep.cell {F : Nat → Prop} {w w' : World} (h : Keep F w w') {b o : Nat} (hb : b < w.heap.size) (hF : ¬ F b) : w'.cell? ⟨b, o, none⟩ = w.cell? ⟨b, o, none⟩ := World.cell?_of_block (h.block b hb hF)
theorem Keep.blk {F : Nat → Prop} {w w' : World} (h : Keep F w w') {b : Nat} {o : Obj} (hb : w.heap[b]? = some o) (hF : ¬ F b) : w'.heap[b]? = some o := (h.block b (lt_blk hb) hF).trans hb

/-- No row lies in a block of F. -/
def Off (F : Nat → Prop) (v : Value) : Prop := ∀ b, v.ownBlock = some b → ¬ F b
theorem Sl.keep {F : Nat → Prop} {w w' : World} {sz : Nat} {v : Value} {xs : List (List Value)} (h : Sl w sz v xs) (k : Keep F w w') (hF : Off F v) : Sl w' sz v xs := by
  rcases h with h | ⟨b, off, cap, rfl, hlt, h1, h2, hc⟩
  · exact .inl h
  · exact .inr ⟨b, off, cap, rfl, Nat.lt_of_lt_of_le hlt k.size, h1, h2, fun i r hr j u hu => (k.cell hlt (hF b rfl)).trans (hc i r hr j u hu)⟩
theorem ownsRow_keep {F : Nat → Prop} {w w' : World} {B n : Nat} {e : TypeId} {size : Nat} {v : Value} {xs : List Value} (h : w.ownsRow B e size v n xs) (k : Keep F w w') (hF : Off F v) : w'.ownsRow B e size v n xs := by
  obtain ⟨h1, h2⟩ := h
  refine ⟨h1, ?_⟩
  rcases h2 with h2 | ⟨g, cap, cur, rfl, hg, hh, r⟩
  · exact .inl h2
  · exact .inr ⟨g, cap, cur, rfl, hg, k.blk hh (hF g rfl), r⟩
theorem ownsRow_below {w w' : World} {B n : Nat} {e : TypeId} {size : Nat} {v : Value} {xs : List Value} (h : w.ownsRow B e size v n xs) (k : Below w.heap.size w w') : w'.ownsRow B e size v n xs :=
  ownsRow_keep h (Keep.of_below (F := fun _ => False) k) (fun _ _ h => h)
theorem MapAt.keep {F : Nat → Prop} {w w' : World} {b : Nat} {l : Mp.Ents} (h : Mp.MapAt w b l) (k : Keep F w w') (hF : ¬ F b) : Mp.MapAt w' b l := h.same (k.block b h.lt hF)
theorem IterAt.keep {F : Nat → Prop} {w w' : World} {r b : Nat} {l todo : Mp.Ents} (h : Mp.IterAt w r b l todo) (k : Keep F w w') (hr : ¬ F r) (hb : ¬ F b) : Mp.IterAt w' r b l todo := h.same (k.block r h.lt.1 hr) (k.block b h.lt.2 hb)
theorem ownsRow_off {w : World} {B n : Nat} {e : TypeId} {size : Nat} {v : Value} {xs : List Value} {F : Nat → Prop} (h : w.ownsRow B e size v n xs) (hF : ∀ b, B ≤ b → b < w.heap.size → ¬ F b) : Off F v := fun b hb => hF b (h.lt b hb).1 (h.lt b hb).2
theorem Sl.off_old {w : World} {sz : Nat} {v : Value} {xs : List (List Value)} {F : Nat → Prop} (h : Sl w sz v xs) (h0 : xs ≠ []) (hF : ∀ b, b < w.heap.size → ¬ F b) : Off F v := by
  rcases h with ⟨rfl, _⟩ | ⟨b, off, cap, rfl, hlt, _⟩
  · exact absurd rfl h0
  · intro b' hb'
    obtain rfl : b = b' := Option.some.inj hb'
    exact hF _ hlt
end Go.Proofs.YtnbhneeohkfocaaDoor.Sc
