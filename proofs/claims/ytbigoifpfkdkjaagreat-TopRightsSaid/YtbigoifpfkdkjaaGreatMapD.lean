/- Maps with texts for keys: an entry deleted, also while a range goes over the map. No program in sight. -/
import Derived.Test.YtbigoifpfkdkjaaGreatMap
namespace Go.Proofs.YtbigoifpfkdkjaaGreat.Mp
open Go Go.RowKit
set_option maxRecDepth 100000

theorem erase_filter : ∀ {es : List MapEntry} {j : Nat} {e : MapEntry}, es[j]? = some e → (es.map MapEntry.born).Nodup → es.eraseIdx j = es.filter fun x => !(x.born == e.born)
  | [], j, e, h, _ => by simp at h
  | x :: r, 0, e, h, hn => by
    obtain rfl : x = e := by simpa using h
    simp only [List.map_cons, List.nodup_cons] at hn
    rw [List.eraseIdx_cons_zero, List.filter_cons_of_neg (by simp)]
    refine (List.filter_eq_self.2 fun y hy => ?_).symm
    have : ¬ y.born = x.born := fun q => hn.1 (List.mem_map.2 ⟨y, hy, q⟩)
    simp [this]
  | x :: r, j + 1, e, h, hn => by
    simp only [List.map_cons, List.nodup_cons] at hn
    have h' : r[j]? = some e := by simpa using h
    have hx : ¬ x.born = e.born := fun q => hn.1 (List.mem_map.2 ⟨e, List.mem_of_getElem? h', q.symm⟩)
    rw [List.eraseIdx_cons_succ, List.filter_cons_of_pos (by simp [hx]), erase_filter h' hn.2]
theorem mdel_keys_nodup {l : Ents} (k : ByteArray) (h : (mkeys l).Nodup) : (mkeys (mdel l k)).Nodup := by
  have : (mkeys (mdel l k)).Sublist (mkeys l) := List.filter_sublist.map _
  exact this.nodup h
theorem mget_mdel (l : Ents) (k n : ByteArray) : mget (mdel l k) n = if k = n then none else mget l n := by
  induction l with
  | nil => simp [mdel, mget]
  | cons p r ih =>
    by_cases hk : k = p.1
    · have : mdel (p :: r) k = mdel r k := by rw [mdel, List.filter_cons_of_neg (by simp [hk])]; rfl
      rw [this, ih, mget]
      by_cases hn : k = n
      · simp [hn]
      · have h2 : ¬ n = p.1 := fun e => hn (hk.trans e.symm)
        simp [hn, h2]
    · have : mdel (p :: r) k = p :: mdel r k := by rw [mdel, List.filter_cons_of_pos (by simp [hk])]; rfl
      rw [this, mget, mget, ih]
      by_cases hn : k = n
      · have h2 : ¬ n = p.1 := fun e => hk (hn.trans e)
        simp [hn, h2]
      · simp [hn]
theorem mdel_length_le (l : Ents) (k : ByteArray) : (mdel l k).length ≤ l.length := List.length_filter_le _ _
theorem mput_length_same : ∀ {l : Ents} {k : ByteArray} (v : Value), mget l k ≠ none → (mput l k v).length = l.length
  | [], _, _, h => absurd rfl h
  | p :: r, k, v, h => by
    by_cases hk : k = p.1
    · simp [mput, hk]
    · rw [mget, if_neg hk] at h
      rw [mput, if_neg hk, List.length_cons, List.length_cons, mput_length_same v h]
theorem IterAt.map {w : World} {r b : Nat} {l todo : Ents} (h : IterAt w r b l todo) : MapAt w b l := by
  obtain ⟨es, clock, since, seen, c0, hr, hb, hf, hn, hd, hlt, hs, hsc, hl⟩ := h
  exact ⟨es, clock, hb, hf, hn, fun e he => Nat.lt_of_lt_of_le (hlt e he) hsc, hd⟩
section
variable {P : Program} {w : World} {t k e : TypeId}
theorem run_delete_it (ht : P.underlying t = some (.map k e)) (hk : P.underlying k = some .string) {r b : Nat} {l todo : Ents} (h : IterAt w r b l todo) {key : ByteArray} (hin : mget l key ≠ none) (ty : TypeId) :
    ∃ w', (Builtin.delete_ #[t, k] ty #[.map (some b), .string key]).run P w = .ok (.tuple #[]) w' ∧ IterAt w' r b (mdel l key) (mdel todo key) ∧ w.grownBy w' (some b) ∧ w'.heap.size = w.heap.size := by
  have hne := h.ne
  obtain ⟨es, clock, since, seen, c0, hr, hb, hf, hn, hd, hlt, hs, hsc, hl⟩ := h
  have hgrow : ∀ o, w.grownBy (ChangeMaps.setBlock w b o) (some b) := fun o => ⟨rfl, rfl, rfl, by simp [ChangeMaps.setBlock], fun i _ hi => ChangeMaps.heap_setBlock_other hb _ (fun e => hi (by rw [e]))⟩
  have hsize : ∀ o, (ChangeMaps.setBlock w b o).heap.size = w.heap.size := fun o => by simp [ChangeMaps.setBlock]
  cases hm : mfind l key 0 with
  | none =>
    have hg := mfind_get l key 0
    rw [hm] at hg
    exact absurd hg.symm hin
  | some q =>
    obtain ⟨j, v0⟩ := q
    obtain ⟨_, ⟨e0, h2, h3⟩, _⟩ := likes_found (v := v0) hf hm
    rw [Nat.sub_zero] at h2
    have hjs : j < es.size := by simpa using (List.getElem?_eq_some_iff.1 h2).1
    have hsub : (es.eraseIdxIfInBounds j).toList = es.toList.filter fun x => !(x.born == e0.born) := by
      unfold Array.eraseIdxIfInBounds
      rw [dif_pos hjs, ← erase_filter h2 hn]
      simp
    have hbk := born_key hf hn hd (List.mem_of_getElem? h2) h3
    refine ⟨ChangeMaps.setBlock w b (.map (es.eraseIdxIfInBounds j) clock), ?_, ⟨_, clock, since, seen, c0, ?_, ChangeMaps.heap_setBlock_same hb _, ?_, ?_, mdel_keys_nodup key hd, ?_, hs, hsc, ?_⟩, hgrow _, hsize _⟩
    · simp [Builtin.delete_, run_underlying ht, MapKept.run_getObj_map hb, run_checkKey_string hk, run_findKey hk hf, hm, MapKept.run_setObj_map _ hb, Result.andThen, ChangeMaps.setBlock]
    · rw [ChangeMaps.heap_setBlock_other hb _ hne]; exact hr
    · rw [hsub]; exact hf.strike hbk
    · rw [hsub]; exact (List.filter_sublist.map _).nodup hn
    · intro x hx
      rw [hsub] at hx
      exact hlt x (List.mem_filter.1 hx).1
    · have e1 : (leftOf (es.eraseIdxIfInBounds j) seen).toList = ((leftOf es seen).toList).filter fun x => !(x.born == e0.born) := by
        unfold leftOf
        rw [Array.toList_filter, Array.toList_filter, hsub, List.filter_filter, List.filter_filter]
        exact List.filter_congr fun x _ => Bool.and_comm _ _
      rw [e1]
      refine hl.strike fun x hx => hbk x ?_
      unfold leftOf at hx
      rw [Array.toList_filter] at hx
      exact (List.mem_filter.1 hx).1
theorem mdel_none {l : Ents} {k : ByteArray} (h : mget l k = none) : mdel l k = l := by
  refine List.filter_eq_self.2 fun p hp => ?_
  have : ¬ k = p.1 := fun e => mget_none.1 h (List.mem_map.2 ⟨p, hp, e.symm⟩)
  simp [this]
theorem run_delete_map (ht : P.underlying t = some (.map k e)) (hk : P.underlying k = some .string) {b : Nat} {l : Ents} (h : MapAt w b l) (key : ByteArray) (ty : TypeId) :
    ∃ w', (Builtin.delete_ #[t, k] ty #[.map (some b), .string key]).run P w = .ok (.tuple #[]) w' ∧ MapAt w' b (mdel l key) ∧ w.grownBy w' (some b) ∧ w'.heap.size = w.heap.size := by
  have h0 := h
  obtain ⟨es, clock, hb, hf, hn, hc, hd⟩ := h
  have hgrow : ∀ o, w.grownBy (ChangeMaps.setBlock w b o) (some b) := fun o => ⟨rfl, rfl, rfl, by simp [ChangeMaps.setBlock], fun i _ hi => ChangeMaps.heap_setBlock_other hb _ (fun e => hi (by rw [e]))⟩
  have hsize : ∀ o, (ChangeMaps.setBlock w b o).heap.size = w.heap.size := fun o => by simp [ChangeMaps.setBlock]
  cases hm : mfind l key 0 with
  | none =>
    have hg := mfind_get l key 0
    rw [hm] at hg
    refine ⟨ChangeMaps.setBlock w b (.map es clock), ?_, ?_, hgrow _, hsize _⟩
    · simp [Builtin.delete_, run_underlying ht, MapKept.run_getObj_map hb, run_checkKey_string hk, run_findKey hk hf, hm, MapKept.run_setObj_map _ hb, Result.andThen, ChangeMaps.setBlock]
    · rw [mdel_none hg.symm]
      exact ⟨es, clock, ChangeMaps.heap_setBlock_same hb _, hf, hn, hc, hd⟩
  | some q =>
    obtain ⟨j, v0⟩ := q
    obtain ⟨_, ⟨e0, h2, h3⟩, _⟩ := likes_found (v := v0) hf hm
    rw [Nat.sub_zero] at h2
    have hjs : j < es.size := by simpa using (List.getElem?_eq_some_iff.1 h2).1
    have hsub : (es.eraseIdxIfInBounds j).toList = es.toList.filter fun x => !(x.born == e0.born) := by
      unfold Array.eraseIdxIfInBounds
      rw [dif_pos hjs, ← erase_filter h2 hn]
      simp
    have hbk := born_key hf hn hd (List.mem_of_getElem? h2) h3
    refine ⟨ChangeMaps.setBlock w b (.map (es.eraseIdxIfInBounds j) clock), ?_, ⟨_, clock, ChangeMaps.heap_setBlock_same hb _, ?_, ?_, ?_, mdel_keys_nodup key hd⟩, hgrow _, hsize _⟩
    · simp [Builtin.delete_, run_underlying ht, MapKept.run_getObj_map hb, run_checkKey_string hk, run_findKey hk hf, hm, MapKept.run_setObj_map _ hb, Result.andThen, ChangeMaps.setBlock]
    · rw [hsub]; exact hf.strike hbk
    · rw [hsub]; exact (List.filter_sublist.map _).nodup hn
    · intro x hx
      rw [hsub] at hx
      exact hc x (List.mem_filter.1 hx).1
variable {ops : Array Oper} {Q : Exit → Act → World → Prop} {dst : Option Tmp} {ty : TypeId} {pos : String} {after : Array Edge} {gd : Option (Nat × Bool)} {a : Act} {rest : List Oper}
theorem wpl_delete {m x : Operand} {r b : Nat} {l todo : Ents} {key : ByteArray} (hw : Region.wanted ⟨dst, .call ⟨.builtin .delete, #[m, x], #[t, k]⟩, ty, pos, after, gd⟩ (yielded ops a.tmps) = true)
    (hm : a.eval m = .map (some b)) (hx : a.eval x = .string key) (ht : P.underlying t = some (.map k e)) (hk : P.underlying k = some .string) (h : IterAt w r b l todo) (hin : mget l key ≠ none)
    (hR : ∀ w', IterAt w' r b (mdel l key) (mdel todo key) → w.grownBy w' (some b) → w'.heap.size = w.heap.size → wpList P ops Q rest (a.put dst (.tuple #[])) w') :
    wpList P ops Q (⟨dst, .call ⟨.builtin .delete, #[m, x], #[t, k]⟩, ty, pos, after, gd⟩ :: rest) a w :=
  Any.wpl hw (by
    obtain ⟨w', hr, h1, h2, h3⟩ := run_delete_it (P := P) ht hk h hin ty
    unfold Any.OpOk
    simp [execOp, resolve, invoke, builtin, hm, hx, hr, Result.andThen]
    exact hR w' h1 h2 h3)
theorem wpl_deletem {m x : Operand} {b : Nat} {l : Ents} {key : ByteArray} (hw : Region.wanted ⟨dst, .call ⟨.builtin .delete, #[m, x], #[t, k]⟩, ty, pos, after, gd⟩ (yielded ops a.tmps) = true)
    (hm : a.eval m = .map (some b)) (hx : a.eval x = .string key) (ht : P.underlying t = some (.map k e)) (hk : P.underlying k = some .string) (h : MapAt w b l)
    (hR : ∀ w', MapAt w' b (mdel l key) → w.grownBy w' (some b) → w'.heap.size = w.heap.size → wpList P ops Q rest (a.put dst (.tuple #[])) w') :
    wpList P ops Q (⟨dst, .call ⟨.builtin .delete, #[m, x], #[t, k]⟩, ty, pos, after, gd⟩ :: rest) a w :=
  Any.wpl hw (by
    obtain ⟨w', hr, h1, h2, h3⟩ := run_delete_map (P := P) ht hk h key ty
    unfold Any.OpOk
    simp [execOp, resolve, invoke, builtin, hm, hx, hr, Result.andThen]
    exact hR w' h1 h2 h3)
end
end Go.Proofs.YtbigoifpfkdkjaaGreat.Mp
