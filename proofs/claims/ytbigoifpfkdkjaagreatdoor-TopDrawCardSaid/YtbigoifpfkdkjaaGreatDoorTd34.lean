/- Maps with texts for keys: an entry deleted, also while a range goes over the map. No program in sight. Join by the program, of lots whose sums are small; a row appended to a row; what is taken from both together, plainly. -/
import Derived.Test.YtbigoifpfkdkjaaGreatDoorTd07
import Derived.Test.YtbigoifpfkdkjaaGreatDoorTd32
namespace Go.Proofs.YtbigoifpfkdkjaaGreatDoor.Mp
open Go Go.RowKit
set_option maxRecDepth 100000

theorem erase_filter : ∀ {es : List MapEntry} {j : Nat} {e : MapEntry}, es[j]? = some e → (es.map MapEntry.born).Nodup → es.eraseIdx j = es.filter fun x => !(x.born == e.born)
  | [], j, e, h, _ => by simp at h
  | x :: r, 0, e, h, hn => by
    obtain rfl : x = e := by simpa using h
    simp only [List.map_cons, List.nodup_cons] at hn
    rw [List.eraseIdx_cons_zero, List.filter_cons_of_neg (by simp)]
    refine (List.filter_eq_self.2 fun y hy => ?_).symm
    have : ¬ y.born = x.born := fun q => hn.1 (List.mem_map.2 ⟨y, hy, q⟩)
    simp [this]
  | x :: r, j + 1, e, h, hn => by
    simp only [List.map_cons, List.nodup_cons] at hn
    have h' : r[j]? = some e := by simpa using h
    have hx : ¬ x.born = e.born := fun q => hn.1 (List.mem_map.2 ⟨e, List.mem_of_getElem? h', q.symm⟩)
    rw [List.eraseIdx_cons_succ, List.filter_cons_of_pos (by simp [hx]), erase_filter h' hn.2]
theorem mdel_keys_nodup {l : Ents} (k : ByteArray) (h : (mkeys l).Nodup) : (mkeys (mdel l k)).Nodup := by
  have : (mkeys (mdel l k)).Sublist (mkeys l) := List.filter_sublist.map _
  exact this.nodup h
theorem mget_mdel (l : Ents) (k n : ByteArray) : mget (mdel l k) n = if k = n then none else mget l n := by
  induction l with
  | nil => simp [mdel, mget]
  | cons p r ih =>
    by_cases hk : k = p.1
    · have : mdel (p :: r) k = mdel r k := by rw [mdel, List.filter_cons_of_neg (by simp [hk])]; rfl
      rw [this, ih, mget]
      by_cases hn : k = n
      · simp [hn]
      · have h2 : ¬ n = p.1 := fun e => hn (hk.trans e.symm)
        simp [hn, h2]
    · have : mdel (p :: r) k = p :: mdel r k := by rw [mdel, List.filter_cons_of_pos (by simp [hk])]; rfl
      rw [this, mget, mget, ih]
      by_cases hn : k = n
      · have h2 : ¬ n = p.1 := fun e => hk (hn.trans e)
        simp [hn, h2]
      · simp [hn]
theorem mdel_length_le (l : Ents) (k : ByteArray) : (mdel l k).length ≤ l.length := List.length_filter_le _ _
theorem mput_length_same : ∀ {l : Ents} {k : ByteArray} (v : Value), mget l k ≠ none → (mput l k v).length = l.length
  | [], _, _, h => absurd rfl h
  | p :: r, k, v, h => by
    by_cases hk : k = p.1
    · simp [mput, hk]
    · rw [mget, if_neg hk] at h
      rw [mput, if_neg hk, List.length_cons, List.length_cons, mput_length_same v h]
theorem IterAt.map {w : World} {r b : Nat} {l todo : Ents} (h : IterAt w r b l todo) : MapAt w b l := by
  obtain ⟨es, clock, since, seen, c0, hr, hb, hf, hn, hd, hlt, hs, hsc, hl⟩ := h
  exact ⟨es, clock, hb, hf, hn, fun e he => Nat.lt_of_lt_of_le (hlt e he) hsc, hd⟩
section
variable {P : Program} {w : World} {t k e : TypeId}
theorem run_delete_it (ht : P.underlying t = some (.map k e)) (hk : P.underlying k = some .string) {r b : Nat} {l todo : Ents} (h : IterAt w r b l todo) {key : ByteArray} (hin : mget l key ≠ none) (ty : TypeId) :
    ∃ w', (Builtin.delete_ #[t, k] ty #[.map (some b), .string key]).run P w = .ok (.tuple #[]) w' ∧ IterAt w' r b (mdel l key) (mdel todo key) ∧ w.grownBy w' (some b) ∧ w'.heap.size = w.heap.size := by
  have hne := h.ne
  obtain ⟨es, clock, since, seen, c0, hr, hb, hf, hn, hd, hlt, hs, hsc, hl⟩ := h
  have hgrow : ∀ o, w.grownBy (ChangeMaps.setBlock w b o) (some b) := fun o => ⟨rfl, rfl, rfl, by simp [ChangeMaps.setBlock], fun i _ hi => ChangeMaps.heap_setBlock_other hb _ (fun e => hi (by rw [e]))⟩
  have hsize : ∀ o, (ChangeMaps.setBlock w b o).heap.size = w.heap.size := fun o => by simp [ChangeMaps.setBlock]
  cases hm : mfind l key 0 with
  | none =>
    have hg := mfind_get l key 0
    rw [hm] at hg
    exact absurd hg.symm hin
  | some q =>
    obtain ⟨j, v0⟩ := q
    obtain ⟨_, ⟨e0, h2, h3⟩, _⟩ := likes_found (v := v0) hf hm
    rw [Nat.sub_zero] at h2
    have hjs : j < es.size := by simpa using (List.getElem?_eq_some_iff.1 h2).1
    have hsub : (es.eraseIdxIfInBounds j).toList = es.toList.filter fun x => !(x.born == e0.born) := by
      unfold Array.eraseIdxIfInBounds
      rw [dif_pos hjs, ← erase_filter h2 hn]
      simp
    have hbk := born_key hf hn hd (List.mem_of_getElem? h2) h3
    refine ⟨ChangeMaps.setBlock w b (.map (es.eraseIdxIfInBounds j) clock), ?_, ⟨_, clock, since, seen, c0, ?_, ChangeMaps.heap_setBlock_same hb _, ?_, ?_, mdel_keys_nodup key hd, ?_, hs, hsc, ?_⟩, hgrow _, hsize _⟩
    · simp [Builtin.delete_, run_underlying ht, MapKept.run_getObj_map hb, run_checkKey_string hk, run_findKey hk hf, hm, MapKept.run_setObj_map _ hb, Result.andThen, ChangeMaps.setBlock]
    · rw [ChangeMaps.heap_setBlock_other hb _ hne]; exact hr
    · rw [hsub]; exact hf.strike hbk
    · rw [hsub]; exact (List.filter_sublist.map _).nodup hn
    · intro x hx
      rw [hsub] at hx
      exact hlt x (List.mem_filter.1 hx).1
    · have e1 : (leftOf (es.eraseIdxIfInBounds j) seen).toList = ((leftOf es seen).toList).filter fun x => !(x.born == e0.born) := by
        unfold leftOf
        rw [Array.toList_filter, Array.toList_filter, hsub, List.filter_filter, List.filter_filter]
        exact List.filter_congr fun x _ => Bool.and_comm _ _
      rw [e1]
      refine hl.strike fun x hx => hbk x ?_
      unfold leftOf at hx
      rw [Array.toList_filter] at hx
      exact (List.mem_filter.1 hx).1
theorem mdel_none {l : Ents} {k : ByteArray} (h : mget l k = none) : mdel l k = l := by
  refine List.filter_eq_self.2 fun p hp => ?_
  have : ¬ k = p.1 := fun e => mget_none.1 h (List.mem_map.2 ⟨p, hp, e.symm⟩)
  simp [this]
theorem run_delete_map (ht : P.underlying t = some (.map k e)) (hk : P.underlying k = some .string) {b : Nat} {l : Ents} (h : MapAt w b l) (key : ByteArray) (ty : TypeId) :
    ∃ w', (Builtin.delete_ #[t, k] ty #[.map (some b), .string key]).run P w = .ok (.tuple #[]) w' ∧ MapAt w' b (mdel l key) ∧ w.grownBy w' (some b) ∧ w'.heap.size = w.heap.size := by
  have h0 := h
  obtain ⟨es, clock, hb, hf, hn, hc, hd⟩ := h
  have hgrow : ∀ o, w.grownBy (ChangeMaps.setBlock w b o) (some b) := fun o => ⟨rfl, rfl, rfl, by simp [ChangeMaps.setBlock], fun i _ hi => ChangeMaps.heap_setBlock_other hb _ (fun e => hi (by rw [e]))⟩
  have hsize : ∀ o, (ChangeMaps.setBlock w b o).heap.size = w.heap.size := fun o => by simp [ChangeMaps.setBlock]
  cases hm : mfind l key 0 with
  | none =>
    have hg := mfind_get l key 0
    rw [hm] at hg
    refine ⟨ChangeMaps.setBlock w b (.map es clock), ?_, ?_, hgrow _, hsize _⟩
    · simp [Builtin.delete_, run_underlying ht, MapKept.run_getObj_map hb, run_checkKey_string hk, run_findKey hk hf, hm, MapKept.run_setObj_map _ hb, Result.andThen, ChangeMaps.setBlock]
    · rw [mdel_none hg.symm]
      exact ⟨es, clock, ChangeMaps.heap_setBlock_same hb _, hf, hn, hc, hd⟩
  | some q =>
    obtain ⟨j, v0⟩ := q
    obtain ⟨_, ⟨e0, h2, h3⟩, _⟩ := likes_found (v := v0) hf hm
    rw [Nat.sub_zero] at h2
    have hjs : j < es.size := by simpa using (List.getElem?_eq_some_iff.1 h2).1
    have hsub : (es.eraseIdxIfInBounds j).toList = es.toList.filter fun x => !(x.born == e0.born) := by
      unfold Array.eraseIdxIfInBounds
      rw [dif_pos hjs, ← erase_filter h2 hn]
      simp
    have hbk := born_key hf hn hd (List.mem_of_getElem? h2) h3
    refine ⟨ChangeMaps.setBlock w b (.map (es.eraseIdxIfInBounds j) clock), ?_, ⟨_, clock, ChangeMaps.heap_setBlock_same hb _, ?_, ?_, ?_, mdel_keys_nodup key hd⟩, hgrow _, hsize _⟩
    · simp [Builtin.delete_, run_underlying ht, MapKept.run_getObj_map hb, run_checkKey_string hk, run_findKey hk hf, hm, MapKept.run_setObj_map _ hb, Result.andThen, ChangeMaps.setBlock]
    · rw [hsub]; exact hf.strike hbk
    · rw [hsub]; exact (List.filter_sublist.map _).nodup hn
    · intro x hx
      rw [hsub] at hx
      exact hc x (List.mem_filter.1 hx).1
variable {ops : Array Oper} {Q : Exit → Act → World → Prop} {dst : Option Tmp} {ty : TypeId} {pos : String} {after : Array Edge} {gd : Option (Nat × Bool)} {a : Act} {rest : List Oper}
theorem wpl_delete {m x : Operand} {r b : Nat} {l todo : Ents} {key : ByteArray} (hw : Region.wanted ⟨dst, .call ⟨.builtin .delete, #[m, x], #[t, k]⟩, ty, pos, after, gd⟩ (yielded ops a.tmps) = true)
    (hm : a.eval m = .map (some b)) (hx : a.eval x = .string key) (ht : P.underlying t = some (.map k e)) (hk : P.underlying k = some .string) (h : IterAt w r b l todo) (hin : mget l key ≠ none)
    (hR : ∀ w', IterAt w' r b (mdel l key) (mdel todo key) → w.grownBy w' (some b) → w'.heap.size = w.heap.size → wpList P ops Q rest (a.put dst (.tuple #[])) w') :
    wpList P ops Q (⟨dst, .call ⟨.builtin .delete, #[m, x], #[t, k]⟩, ty, pos, after, gd⟩ :: rest) a w :=
  Any.wpl hw (by
    obtain ⟨w', hr, h1, h2, h3⟩ := run_delete_it (P := P) ht hk h hin ty
    unfold Any.OpOk
    simp [execOp, resolve, invoke, builtin, hm, hx, hr, Result.andThen]
    exact hR w' h1 h2 h3)
theorem wpl_deletem {m x : Operand} {b : Nat} {l : Ents} {key : ByteArray} (hw : Region.wanted ⟨dst, .call ⟨.builtin .delete, #[m, x], #[t, k]⟩, ty, pos, after, gd⟩ (yielded ops a.tmps) = true)
    (hm : a.eval m = .map (some b)) (hx : a.eval x = .string key) (ht : P.underlying t = some (.map k e)) (hk : P.underlying k = some .string) (h : MapAt w b l)
    (hR : ∀ w', MapAt w' b (mdel l key) → w.grownBy w' (some b) → w'.heap.size = w.heap.size → wpList P ops Q rest (a.put dst (.tuple #[])) w') :
    wpList P ops Q (⟨dst, .call ⟨.builtin .delete, #[m, x], #[t, k]⟩, ty, pos, after, gd⟩ :: rest) a w :=
  Any.wpl hw (by
    obtain ⟨w', hr, h1, h2, h3⟩ := run_delete_map (P := P) ht hk h key ty
    unfold Any.OpOk
    simp [execOp, resolve, invoke, builtin, hm, hx, hr, Result.andThen]
    exact hR w' h1 h2 h3)
end
end Go.Proofs.YtbigoifpfkdkjaaGreatDoor.Mp
namespace Go.Proofs.YtbigoifpfkdkjaaGreatDoor.Sc
open Go Go.RowKit Go.ChangeShapes Go.WideShapes Go.ChangeAt
set_option maxRecDepth 100000

def nz (x : Option Int) : Option Int := if x = some 0 then none else x
/-- What stands in the map while the range goes: entries of nothing that have come are gone. -/
def DelOf (cur : Mp.Ents) (C : ByteArray → Option Int) (todo : Mp.Ents) : Prop := ∀ n, Mp.mget cur n = (if Mp.mget todo n = none then nz (C n) else C n).map (Value.int .i64)
theorem delOf_start {es : Mp.Ents} {C : ByteArray → Option Int} (h : ∀ n, Mp.mget es n = (C n).map (Value.int .i64)) : DelOf es C es := fun n => by
  have h1 := h n
  by_cases h0 : Mp.mget es n = none
  · rw [if_pos h0]
    rw [h0] at h1
    have h2 : C n = none := by
      cases hc : C n with
      | none => rfl
      | some c => rw [hc] at h1; cases h1
    rw [h0, h2]
    rfl
  · rw [if_neg h0, h1]
theorem delOf_keep {cur todo : Mp.Ents} {C : ByteArray → Option Int} {key : ByteArray} {c : Int} (h : DelOf cur C todo) (hk : C key = some c) (hin : Mp.mget todo key ≠ none) (hc : ¬ c = 0) : DelOf cur C (Mp.mdel todo key) := fun n => by
  rw [Mp.mget_mdel, h n]
  by_cases hn : key = n
  · subst hn
    rw [if_neg hin, if_pos (if_pos rfl), nz, if_neg]
    rw [hk]
    exact fun e => hc (Option.some.inj e)
  · rw [if_neg hn]
theorem delOf_del {cur todo : Mp.Ents} {C : ByteArray → Option Int} {key : ByteArray} (h : DelOf cur C todo) (hk : C key = some 0) : DelOf (Mp.mdel cur key) C (Mp.mdel (Mp.mdel todo key) key) := fun n => by
  rw [Mp.mget_mdel, Mp.mget_mdel, Mp.mget_mdel, h n]
  by_cases hn : key = n
  · subst hn
    rw [if_pos rfl, if_pos rfl, if_pos rfl, nz, if_pos hk]
    rfl
  · rw [if_neg hn, if_neg hn, if_neg hn]
theorem delOf_end {cur : Mp.Ents} {C : ByteArray → Option Int} (h : DelOf cur C []) (n : ByteArray) : Mp.mget cur n = (nz (C n)).map (Value.int .i64) := by
  rw [h n, if_pos (show Mp.mget [] n = none from rfl)]
theorem mget_ne {l : Mp.Ents} {k : ByteArray} {v : Value} (h : (k, v) ∈ l) : Mp.mget l k ≠ none := fun e => Mp.mget_none.1 e (List.mem_map.2 ⟨_, h, rfl⟩)
def DelP (w : World) (b : Nat) (es : Mp.Ents) (C : ByteArray → Option Int) (e : Ending) (w' : World) : Prop := ∃ es2, e = .returned (.tuple #[]) ∧ Mp.MapAt w' b es2 ∧ (∀ n, Mp.mget es2 n = (nz (C n)).map (Value.int .i64)) ∧ es2.length ≤ es.length ∧ Below b w w'
end Go.Proofs.YtbigoifpfkdkjaaGreatDoor.Sc
namespace Go.Proofs.YtbigoifpfkdkjaaGreatDoor.Sc
open Go Go.RowKit Go.ChangeShapes Go.WideShapes Go.ChangeAt
set_option maxRecDepth 100000

/-- What stands in the map while the taking goes. -/
def LeftOf (cur : Mp.Ents) (l m : List Lt) (todo : Mp.Ents) : Prop :=
  ∀ n, Mp.mget cur n = (if 0 < posTot l n then some (.int .i64 (posTot l n - if Mp.mget todo n = none then posTot m n else 0)) else none) ∧ (Mp.mget todo n = none → posTot m n ≤ posTot l n)
theorem leftOf_start {el ec : Mp.Ents} {l m : List Lt} (h1 : CntOf el l) (h2 : CntOf ec m) : LeftOf el l m ec := fun n => by
  have h3 := h2 n
  have h4 := posTot_nonneg m n
  have h5 := posTot_nonneg l n
  have h6 : Mp.mget ec n = none → posTot m n = 0 := fun e => by
    rw [e] at h3
    split at h3
    · cases h3
    · omega
  refine ⟨?_, fun e => by rw [h6 e]; exact h5⟩
  rw [h1 n]
  by_cases e : Mp.mget ec n = none
  · rw [if_pos e, h6 e, Int.sub_zero]
  · rw [if_neg e, Int.sub_zero]
theorem leftOf_get {cur todo : Mp.Ents} {l m : List Lt} {key : ByteArray} (h : LeftOf cur l m todo) (hk : Mp.mget todo key ≠ none) : (Mp.mget cur key).getD (.int .i64 0) = .int .i64 (posTot l key) := by
  rw [(h key).1, if_neg hk, Int.sub_zero]
  split
  · rfl
  · have := posTot_nonneg l key
    have : posTot l key = 0 := by omega
    rw [this]; rfl
theorem leftOf_in {cur todo : Mp.Ents} {l m : List Lt} {key : ByteArray} (h : LeftOf cur l m todo) (hk : 0 < posTot l key) : Mp.mget cur key ≠ none := by
  rw [(h key).1, if_pos hk]
  exact fun e => by cases e
theorem leftOf_step {cur todo : Mp.Ents} {l m : List Lt} {key : ByteArray} (h : LeftOf cur l m todo) (h0 : 0 < posTot m key) (hle : posTot m key ≤ posTot l key) :
    LeftOf (Mp.mput cur key (.int .i64 (posTot l key - posTot m key))) l m (Mp.mdel todo key) := fun n => by
  rw [Mp.mget_mdel]
  by_cases hn : key = n
  · subst hn
    rw [if_pos rfl, if_pos rfl, Mp.mget_mput_same, if_pos (by omega)]
    exact ⟨rfl, fun _ => hle⟩
  · rw [if_neg hn, Mp.mget_mput_other _ _ (fun e => hn e.symm)]
    exact h n
theorem leftOf_can {cur : Mp.Ents} {l m : List Lt} (h : LeftOf cur l m []) : canTake l m := fun n => (h n).2 rfl
def leftC (l m : List Lt) (n : ByteArray) : Option Int := if 0 < posTot l n then some (posTot l n - posTot m n) else none
theorem leftOf_end {cur : Mp.Ents} {l m : List Lt} (h : LeftOf cur l m []) (n : ByteArray) : Mp.mget cur n = (leftC l m n).map (Value.int .i64) := by
  rw [(h n).1, if_pos (show Mp.mget [] n = none from rfl), leftC]
  split <;> rfl
theorem left_cnt {es : Mp.Ents} {l m : List Lt} (h : ∀ n, Mp.mget es n = (nz (leftC l m n)).map (Value.int .i64)) (hc : canTake l m) : CntOf es (leftL l m) := fun n => by
  have h1 := hc n
  have h2 := posTot_nonneg m n
  rw [h n, leftL_tot hc, leftC, nz]
  by_cases h3 : 0 < posTot l n
  · rw [if_pos h3]
    by_cases h4 : posTot l n - posTot m n = 0
    · rw [if_pos (by rw [h4]), if_neg (by omega)]; rfl
    · rw [if_neg (fun e => h4 (Option.some.inj e)), if_pos (by omega)]; rfl
  · rw [if_neg h3, if_neg (fun e => by cases e), if_neg (by omega)]; rfl
def TakeP (w : World) (l m : List Lt) (e : Ending) (w' : World) : Prop :=
  (canTake l m ∧ ∃ v, e = .returned (.tuple #[v, .bool true]) ∧ w'.ownsRow w.heap.size 107 2 v (leftL l m).length (ltCells (leftL l m)) ∧ Below w.heap.size w w') ∨
    (¬ canTake l m ∧ e = .returned (.tuple #[.slice none 0 0, .bool false]) ∧ Below w.heap.size w w')
end Go.Proofs.YtbigoifpfkdkjaaGreatDoor.Sc
namespace Go.Proofs.YtbigoifpfkdkjaaGreatDoor.Any
open Go Go.RowKit
variable {P : Program} {ops : Array Oper} {Q : Exit → Act → World → Prop}
theorem wpl_cat {te e : TypeId} {i : TypeInfo} {z : Value} {size bytes base : Nat} {n m : Nat} {xs news : List Value} {dst : Option Tmp} {x y : Operand} {t : TypeId} {pos : String} {after : Array Edge} {gd : Option (Nat × Bool)} {vx vy : Value} {a : Act} {w : World} {rest : List Oper}
    (hw : Region.wanted ⟨dst, .call ⟨.builtin .append, #[x, y], #[te, te]⟩, t, pos, after, gd⟩ (yielded ops a.tmps) = true) (hx : a.eval x = vx) (hy : a.eval y = vy)
    (hu : P.underlying te = some (.slice e)) (hi : P.info? e = some i) (hz : i.zero = some z)
    (hsz : i.size = size) (hby : i.bytes = bytes) (hzs : z.cells.size = size) (hpos : 0 < size) (hown : w.ownsRow base e size vx n xs) (hsrc : Sc.Src w size vy m news)
    (h1 : ∀ u ∈ news, u.oneCell' = true) (h63 : n + m ≤ maxLen) (hb : (n + m) * bytes ≤ 140737488355328) (hbase : base ≤ w.heap.size)
    (h : ∀ v' w', w'.ownsRow base e size v' (n + m) (xs ++ news) → w.grownBy w' vx.ownBlock → (∀ b, v'.ownBlock = some b → vx.ownBlock = some b ∨ w.heap.size ≤ b) → wpList P ops Q rest (a.put dst v') w') :
    wpList P ops Q (⟨dst, .call ⟨.builtin .append, #[x, y], #[te, te]⟩, t, pos, after, gd⟩ :: rest) a w := by
  subst hx hy
  exact wpl hw (ok_append_own hu hi hz hsz hby hzs hpos hown hsrc h1 h63 hb hbase h)
end Go.Proofs.YtbigoifpfkdkjaaGreatDoor.Any
namespace Go.Proofs.YtbigoifpfkdkjaaGreatDoor.Sc
open Go Go.RowKit Go.ChangeShapes Go.WideShapes Go.ChangeAt
set_option maxRecDepth 100000

theorem posTot_next {l : List Lt} {k : Nat} (h : k < l.length) (h0 : 0 < l[k].cnt) : posTot (l.take k) l[k].good + l[k].cnt ≤ posTot l l[k].good := by
  have e : posTot l l[k].good = posTot (l.take (k + 1)) l[k].good + posTot (l.drop (k + 1)) l[k].good := by rw [← posTot_append, List.take_append_drop]
  have h1 := posTot_nonneg (l.drop (k + 1)) l[k].good
  rw [e, List.take_succ_eq_append_getElem h, posTot_snoc, if_pos ⟨rfl, h0⟩]
  omega
set_option maxHeartbeats 4000000 in
theorem counts_all (l : List Lt) (v : Value) (w : World) (hs : Sl w 2 v (l.map Lt.row)) (hl : l.length ≤ 4000) (hc : ∀ n, posTot l n ≤ 4611686018427387904) :
    Calls Tryz.prog 91 #[v] w (MapP w l) := by
  obtain ⟨a, c, rfl⟩ : ∃ a c, v = .slice a l.length c := by simpa using hs.shape
  have hll : l.length ≤ 9223372036854775807 := by omega
  have HS := Lib.hid hs
  have HL := Lib.hid hl
  have HC := Lib.hid hc
  have tm : ∀ W : World, (Instr.makeMap 183 none).run Tryz.prog W = .ok (.map (some W.heap.size)) (W.alloc (.map #[] 0)) := fun W => by kernel_rfl
  have HM0 := Lib.hid (Mp.MapAt.made w)
  clear hs hl hc
  go_enter Tryz.func91, Tryz.ntmps91
  go_wp2_with fail
  obtain ⟨bm, hbm⟩ : ∃ b, b = w.heap.size := ⟨_, rfl⟩
  rw [← hbm] at HM0 ⊢
  have HBM : Hid (w.heap.size ≤ bm) := Lib.hid (by omega)
  clear hbm tm
  go_loopw [5, 9] (fun _ i wr => ∃ (k : Nat) (es : Mp.Ents), k ≤ l.length ∧ i = .int .i64 k ∧ Mp.MapAt wr bm es ∧ CntOf es (l.take k) ∧ es.length ≤ k ∧ Below w.heap.size w wr) (fun _ i _ => l.length - (intOf i).toNat)
  case atStart => exact ⟨0, [], Nat.zero_le _, rfl, HM0.out, cntOf_nil, Nat.le_refl _, one_below _ _⟩
  case round =>
    obtain ⟨k, es, hk, rfl, hm, hcn, hel, hbel⟩ := hrel
    have HBEL := Lib.hid hbel
    have HM := Lib.hid hm
    have HCN := Lib.hid hcn
    have HEL := Lib.hid hel
    by_cases hlt : k < l.length
    · obtain ⟨b, off, rfl, -, hb, hc⟩ := HS.out.at (i := k) (by simpa using hlt)
      have d0 := (hbel.cell (p := ⟨b, off + k * 2, none⟩) hb).trans (hc k l[k].row (by simp [hlt]) 0 _ rfl)
      have d1 := (hbel.cell (p := ⟨b, off + k * 2 + 1, none⟩) hb).trans (hc k l[k].row (by simp [hlt]) 1 _ rfl)
      have HTK : Hid (l.take (k + 1) = l.take k ++ [l[k]]) := Lib.hid (List.take_succ_eq_append_getElem hlt)
      have hnx : 0 < l[k].cnt → posTot (l.take k) l[k].good + l[k].cnt ≤ 4611686018427387904 := fun h => Int.le_trans (posTot_next hlt h) (HC.out _)
      have h0 := posTot_nonneg (l.take k) l[k].good
      generalize l[k] = x at *
      obtain ⟨xn, xc⟩ := x
      simp only at d0 d1 hnx h0
      obtain ⟨O, hO⟩ : ∃ O, O = posTot (l.take k) xn := ⟨_, rfl⟩
      rw [← hO] at hnx h0
      have HOO := Lib.hid hO
      have HGV : Hid ((Mp.mget es xn).getD (.int .i64 0) = .int .i64 O) := Lib.hid (by rw [hO]; exact cntOf_old hcn xn)
      have HB0 := Lib.hid (one_below wr (.cells #[.string xn, .int .i64 xc] 107))
      clear hc hbel hm hcn hO
      by_cases hp : 0 < xc
      · have tp : decide (0 < xc) = true := decide_eq_true hp
        have HNX : Hid (CntOf (Mp.mput es xn (.int .i64 (O + xc))) (l.take (k + 1))) := Lib.hid (by rw [HTK.out, HOO.out]; exact cntOf_put (x := ⟨xn, xc⟩) HCN.out hp)
        have hq := hnx hp
        have eO : wrap64 (O + xc) = O + xc := wrap_q (by omega)
        clear hp hq hnx
        go_wp2_with (first
          | ((with_reducible refine Mp.wpl_val (l := es) (key := xn) (v := .int .i64 O) ?_ ?_ ?_ Tryz.underlying183 Tryz.underlying9 (zeroInt _) (HM.out.same (Below.heap_alloc _ _ _ HM.out.lt)) HGV.out ?_); rfl; rfl; rfl)
          | ((with_reducible refine Mp.wpl_update (b := bm) (l := es) (key := xn) (v := .int .i64 (O + xc)) ?_ ?_ ?_ ?_ Tryz.underlying183 Tryz.underlying9 (HM.out.same (Below.heap_alloc _ _ _ HM.out.lt)) ?_); rfl; rfl; rfl; exact congrArg (Value.int .i64) eO; intro w5 hm5 hg5 hz5; have HM5 := Lib.hid hm5; have HG5 := Lib.hid hg5; clear hm5 hg5 hz5; go_frame)
          | fail)
        go_roundw
        case rel => exact ⟨k + 1, _, by omega, by go_num, HM5.out, HNX.out, by have := Mp.mput_length_le es xn (.int .i64 (O + xc)); have := HEL.out; omega, (HBEL.out.trans (HB0.out.mono HBEL.out.size)).grown HG5.out (Nat.le_trans HBEL.out.size HB0.out.size) (fun j hj => by obtain rfl : bm = j := Option.some.inj hj; exact HBM.out)⟩
        case measure => (simp [intOf]) <;> omega
      · have tp : decide (0 < xc) = false := decide_eq_false hp
        have HNX : Hid (CntOf es (l.take (k + 1))) := Lib.hid (by rw [HTK.out]; exact cntOf_skip HCN.out hp)
        clear hp hnx
        go_wp2_with fail
        go_roundw
        case rel => exact ⟨k + 1, es, by omega, by go_num, HM.out.same (Below.heap_alloc _ _ _ HM.out.lt), HNX.out, by have := HEL.out; omega, HBEL.out.trans (HB0.out.mono HBEL.out.size)⟩
        case measure => (simp [intOf]) <;> omega
    · have HE : Hid (l.take k = l) := Lib.hid (List.take_of_length_le (by omega))
      have HKL : Hid (es.length ≤ l.length) := Lib.hid (by omega)
      clear hbel hm hcn hel
      go_wp2_with fail
      go_ret
      exact ⟨bm, es, rfl, HBM.out, HM.out, by have := HCN.out; rwa [HE.out] at this, HKL.out, HBEL.out⟩
set_option maxHeartbeats 2000000 in
theorem join_all (l : List Lt) (v : Value) (w : World) (hs : Sl w 2 v (l.map Lt.row)) (hl : l.length ≤ 4000) (hc : ∀ n, posTot l n ≤ 4611686018427387904) :
    Calls Tryz.prog 36 #[v] w (RetRow w 107 2 (joinL l).length (ltCells (joinL l))) := by
  have HC := Lib.hid (counts_all l v w hs hl hc)
  have HL := Lib.hid hl
  clear hs hl hc
  go_enter Tryz.func36, Tryz.ntmps36
  go_wp2_with (first
    | ((with_reducible refine HC.out.mono ?_); rintro e w1 ⟨bm, es, rfl, hbm, hm, hcn, hel, hb1⟩; have HB := Lib.hid hb1; have HRI := Lib.hid (rising_any es (joinL l) bm w1 hm (cntOf_tot hcn (joinL_tot l)) (joinL_norm l) (by have := HL.out; omega)); clear hbm hm hcn hel hb1)
    | ((with_reducible refine HRI.out.mono ?_); rintro e w2 ⟨v2, rfl, hown, hb2⟩; have HO := Lib.hid hown; have HB2 := Lib.hid hb2; clear hown hb2)
    | fail)
  go_ret
  exact retRow HO.out HB.out.size (HB.out.trans (HB2.out.mono HB.out.size))
theorem can_both (l m : List Lt) : canTake (l ++ m) m := fun n => by
  rw [posTot_append]; have := posTot_nonneg l n; omega
theorem left_both (l m : List Lt) : leftL (l ++ m) m = joinL l := norm_ext (leftL_norm (can_both l m)) (joinL_norm l) fun n => by
  rw [leftL_tot (can_both l m), posTot_append, joinL_tot]; omega
theorem join_both (l m : List Lt) : joinL (joinL l ++ m) = joinL (l ++ m) := norm_ext (joinL_norm _) (joinL_norm _) fun n => by
  rw [joinL_tot, joinL_tot, posTot_append, posTot_append, joinL_tot]
theorem can_self (l : List Lt) : canTake l l := fun _ => Int.le_refl _
theorem left_self (l : List Lt) : leftL l l = [] := norm_ext (leftL_norm (can_self l)) (show Norm [] from joinL_norm []) fun n => by
  rw [leftL_tot (can_self l), Int.sub_self]; rfl
theorem jIns_length (L : List Lt) (x : Lt) : (jIns L x).length ≤ L.length + 1 := by
  induction L with
  | nil => simp [jIns]
  | cons y r ih =>
    rw [jIns]
    split
    · simp only [List.length_cons]; omega
    · split
      · simp only [List.length_cons]; omega
      · simp only [List.length_cons]; omega
theorem joinL_length (l : List Lt) : (joinL l).length ≤ l.length := by
  have : ∀ (l out : List Lt), (l.foldl (fun out x => if x.cnt < 1 then out else jIns out x) out).length ≤ out.length + l.length := by
    intro l
    induction l with
    | nil => intro out; simp
    | cons x r ih =>
      intro out
      rw [List.foldl_cons, List.length_cons]
      refine Nat.le_trans (ih _) ?_
      split
      · omega
      · have := jIns_length out x; omega
  have h := this l []
  rwa [List.length_nil, Nat.zero_add] at h
end Go.Proofs.YtbigoifpfkdkjaaGreatDoor.Sc
