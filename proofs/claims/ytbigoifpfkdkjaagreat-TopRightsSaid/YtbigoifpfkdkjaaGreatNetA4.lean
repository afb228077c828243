/- A debt there and one back: the map of what is owed, operation by operation. -/
import Derived.Test.YtbigoifpfkdkjaaGreatAny
import Derived.Test.YtbigoifpfkdkjaaGreatMap
import Derived.Test.YtbigoifpfkdkjaaGreatKeep
import Derived.Test.YtbigoifpfkdkjaaGreatLaw
import Derived.Maps.RangeRun
namespace Go.Proofs.YtbigoifpfkdkjaaGreat.Sc
open Go Go.RowKit Go.ChangeShapes Go.WideShapes Go.ChangeAt
set_option maxRecDepth 100000

def kAB : Value := .agg #[.string ⟨#[85, 83, 68]⟩, .string ⟨#[97]⟩, .string ⟨#[98]⟩]
def kBA : Value := .agg #[.string ⟨#[85, 83, 68]⟩, .string ⟨#[98]⟩, .string ⟨#[97]⟩]
theorem ckAB (em : Bool) (W : World) : (Instr.checkKey em 10000 86 kAB).run Tryz.prog W = .ok () W := by cases em <;> kernel_rfl
theorem ckBA (em : Bool) (W : World) : (Instr.checkKey em 10000 86 kBA).run Tryz.prog W = .ok () W := by cases em <;> kernel_rfl
theorem stAB (W : World) : (Instr.keyThatStays kAB kAB).run Tryz.prog W = .ok kAB W := by kernel_rfl
theorem stBA (W : World) : (Instr.keyThatStays kBA kBA).run Tryz.prog W = .ok kBA W := by kernel_rfl
theorem f0 (W : World) : (Instr.findKey 86 kAB []).run Tryz.prog W = .ok none W := by kernel_rfl
theorem f1 (a : Value) (W : World) : (Instr.findKey 86 kAB [⟨kAB, a, 0⟩]).run Tryz.prog W = .ok (some (0, a)) W := by kernel_rfl
theorem f2 (a : Value) (W : World) : (Instr.findKey 86 kBA [⟨kAB, a, 0⟩]).run Tryz.prog W = .ok none W := by kernel_rfl
theorem f3 (a b : Value) (W : World) : (Instr.findKey 86 kAB [⟨kAB, a, 0⟩, ⟨kBA, b, 1⟩]).run Tryz.prog W = .ok (some (0, a)) W := by kernel_rfl
theorem f4 (a b : Value) (W : World) : (Instr.findKey 86 kBA [⟨kAB, a, 0⟩, ⟨kBA, b, 1⟩]).run Tryz.prog W = .ok (some (1, b)) W := by kernel_rfl
section
variable {W : World} {b c : Nat} {es : Array MapEntry} {key : Value}
theorem run_lkS {v : Value} {j : Nat} (hb : W.heap[b]? = some (.map es c)) (hc : ∀ (em : Bool) (W : World), (Instr.checkKey em 10000 86 key).run Tryz.prog W = .ok () W) (hf : (Instr.findKey 86 key es.toList).run Tryz.prog W = .ok (some (j, v)) W) :
    (Instr.lookup 68 (.map (some b)) key false).run Tryz.prog W = .ok v W := by
  have hce := hc es.isEmpty W
  simp [Instr.lookup, run_underlying Tryz.underlying68, MapKept.run_getObj_map hb, hce, hf]
theorem run_lkN (hb : W.heap[b]? = some (.map es c)) (hc : ∀ (em : Bool) (W : World), (Instr.checkKey em 10000 86 key).run Tryz.prog W = .ok () W) (hf : (Instr.findKey 86 key es.toList).run Tryz.prog W = .ok none W) :
    (Instr.lookup 68 (.map (some b)) key false).run Tryz.prog W = .ok (.int .i64 0) W := by
  have hce := hc es.isEmpty W
  simp [Instr.lookup, run_underlying Tryz.underlying68, MapKept.run_getObj_map hb, hce, hf]
theorem run_meN (hb : W.heap[b]? = some (.map es c)) (hc : ∀ (em : Bool) (W : World), (Instr.checkKey em 10000 86 key).run Tryz.prog W = .ok () W) (hf : (Instr.findKey 86 key es.toList).run Tryz.prog W = .ok none W) :
    (Instr.mapEntry 68 (.map (some b)) key).run Tryz.prog W = .ok (.tuple #[.int .i64 0, .int .i64 c]) (ChangeMaps.setBlock W b (.map (es.push ⟨key, .int .i64 0, c⟩) (c + 1))) := by
  have hce := hc false W
  simp [Instr.mapEntry, run_underlying Tryz.underlying68, MapKept.run_getObj_map hb, hce, hf, MapKept.run_setObj_map _ hb, Result.andThen, ChangeMaps.setBlock, goInt]
theorem run_meS {v : Value} {j n : Nat} (hb : W.heap[b]? = some (.map es c)) (hc : ∀ (em : Bool) (W : World), (Instr.checkKey em 10000 86 key).run Tryz.prog W = .ok () W) (hf : (Instr.findKey 86 key es.toList).run Tryz.prog W = .ok (some (j, v)) W)
    (hs : ∀ W : World, (Instr.keyThatStays key key).run Tryz.prog W = .ok key W) (hj : es[j]? = some ⟨key, v, n⟩) :
    (Instr.mapEntry 68 (.map (some b)) key).run Tryz.prog W = .ok (.tuple #[v, .int .i64 n]) (ChangeMaps.setBlock W b (.map (es.modify j fun e => { e with key := key }) c)) := by
  have hce := hc false W
  simp [Instr.mapEntry, run_underlying Tryz.underlying68, MapKept.run_getObj_map hb, hce, hf, hj, hs, MapKept.run_setObj_map _ hb, Result.andThen, ChangeMaps.setBlock, goInt]
theorem run_es {j n : Nat} {val : Value} (hb : W.heap[b]? = some (.map es c)) (hi : es.findIdx? (fun e => ((e.born : Nat) : Int) == ((n : Nat) : Int)) = some j) :
    (Instr.entryStore 68 (.map (some b)) (.int .i64 n) val).run Tryz.prog W = .ok () (ChangeMaps.setBlock W b (.map (es.modify j fun e => { e with val := val }) c)) := by
  simp [Instr.entryStore, MapKept.run_getObj_map hb, asInt, asIntOf, hi, MapKept.run_setObj_map _ hb, Result.andThen, ChangeMaps.setBlock]
theorem run_delS {v : Value} {j : Nat} (ty : TypeId) (hb : W.heap[b]? = some (.map es c)) (hc : ∀ (em : Bool) (W : World), (Instr.checkKey em 10000 86 key).run Tryz.prog W = .ok () W) (hf : (Instr.findKey 86 key es.toList).run Tryz.prog W = .ok (some (j, v)) W) :
    (Builtin.delete_ #[68, 86] ty #[.map (some b), key]).run Tryz.prog W = .ok (.tuple #[]) (ChangeMaps.setBlock W b (.map (es.eraseIdxIfInBounds j) c)) := by
  have hce := hc es.isEmpty W
  simp [Builtin.delete_, run_underlying Tryz.underlying68, MapKept.run_getObj_map hb, hce, hf, MapKept.run_setObj_map _ hb, Result.andThen, ChangeMaps.setBlock]
theorem set_heap (hb : W.heap[b]? = some (.map es c)) (o' : Obj) : (ChangeMaps.setBlock W b o').heap[b]? = some o' := ChangeMaps.heap_setBlock_same hb o'
theorem set_kept (hb : W.heap[b]? = some (.map es c)) (o' : Obj) : Keep (fun x => x = b) W (ChangeMaps.setBlock W b o') :=
  ⟨rfl, rfl, rfl, by simp [ChangeMaps.setBlock], fun i _ hi => ChangeMaps.heap_setBlock_other hb _ (fun e => hi e)⟩
end
section
variable {P : Program} {dst : Option Tmp} {t ty : TypeId} {pos : String} {after : Array Edge} {gd : Option (Nat × Bool)} {ρ : Operand → Value} {w w' : World} {R : Value → World → Prop} {b : Nat} {key v : Value}
theorem ok_lkr {m x : Operand} (hm : ρ m = .map (some b)) (hx : ρ x = key) (hr : (Instr.lookup t (.map (some b)) key false).run P w = .ok v w) (hR : R v w) : Any.OpOk P ⟨dst, .lookup t m x false, ty, pos, after, gd⟩ ρ w R := by
  unfold Any.OpOk
  simp [execOp, hm, hx, hr, Result.andThen]
  exact hR
theorem ok_mer {m x : Operand} (hm : ρ m = .map (some b)) (hx : ρ x = key) (hr : (Instr.mapEntry t (.map (some b)) key).run P w = .ok v w') (hR : R v w') : Any.OpOk P ⟨dst, .mapEntry t m x, ty, pos, after, gd⟩ ρ w R := by
  unfold Any.OpOk
  simp [execOp, hm, hx, hr, Result.andThen]
  exact hR
theorem ok_esr {m s y : Operand} {n : Int} (hm : ρ m = .map (some b)) (hs : ρ s = .int .i64 n) (hy : ρ y = v) (hr : (Instr.entryStore t (.map (some b)) (.int .i64 n) v).run P w = .ok () w') (hR : R undef w') : Any.OpOk P ⟨dst, .entryStore t m s y, ty, pos, after, gd⟩ ρ w R := by
  unfold Any.OpOk
  simp [execOp, hm, hs, hy, hr, Result.andThen]
  exact hR
theorem ok_der {m x : Operand} {t2 : TypeId} (hm : ρ m = .map (some b)) (hx : ρ x = key) (hr : (Builtin.delete_ #[t, t2] ty #[.map (some b), key]).run P w = .ok v w') (hR : R v w') : Any.OpOk P ⟨dst, .call ⟨.builtin .delete, #[m, x], #[t, t2]⟩, ty, pos, after, gd⟩ ρ w R := by
  unfold Any.OpOk
  simp [execOp, resolve, invoke, builtin, hm, hx, hr, Result.andThen]
  exact hR
end
theorem mk1 (a : Value) : (#[⟨kAB, a, 0⟩] : Array MapEntry).modify 0 (fun e => { e with key := kAB }) = #[⟨kAB, a, 0⟩] := by simp [Array.modify, Array.modifyM]
theorem mk2 (a b : Value) : (#[⟨kAB, a, 0⟩, ⟨kBA, b, 1⟩] : Array MapEntry).modify 0 (fun e => { e with key := kAB }) = #[⟨kAB, a, 0⟩, ⟨kBA, b, 1⟩] := by simp [Array.modify, Array.modifyM]
theorem mk3 (a b : Value) : (#[⟨kAB, a, 0⟩, ⟨kBA, b, 1⟩] : Array MapEntry).modify 1 (fun e => { e with key := kBA }) = #[⟨kAB, a, 0⟩, ⟨kBA, b, 1⟩] := by simp [Array.modify, Array.modifyM]
theorem mv1 (a v : Value) : (#[⟨kAB, a, 0⟩] : Array MapEntry).modify 0 (fun e => { e with val := v }) = #[⟨kAB, v, 0⟩] := by simp [Array.modify, Array.modifyM]
theorem mv2 (a b v : Value) : (#[⟨kAB, a, 0⟩, ⟨kBA, b, 1⟩] : Array MapEntry).modify 0 (fun e => { e with val := v }) = #[⟨kAB, v, 0⟩, ⟨kBA, b, 1⟩] := by simp [Array.modify, Array.modifyM]
theorem mv3 (a b v : Value) : (#[⟨kAB, a, 0⟩, ⟨kBA, b, 1⟩] : Array MapEntry).modify 1 (fun e => { e with val := v }) = #[⟨kAB, a, 0⟩, ⟨kBA, v, 1⟩] := by simp [Array.modify, Array.modifyM]
theorem er2 (a b : Value) : (#[⟨kAB, a, 0⟩, ⟨kBA, b, 1⟩] : Array MapEntry).eraseIdxIfInBounds 1 = #[⟨kAB, a, 0⟩] := by simp [Array.eraseIdxIfInBounds]
theorem fi1 (a : Value) : (#[⟨kAB, a, 0⟩] : Array MapEntry).findIdx? (fun e => ((e.born : Nat) : Int) == ((0 : Nat) : Int)) = some 0 := by simp [Array.findIdx?, Array.findIdx?.loop]
theorem fi2 (a b : Value) : (#[⟨kAB, a, 0⟩, ⟨kBA, b, 1⟩] : Array MapEntry).findIdx? (fun e => ((e.born : Nat) : Int) == ((0 : Nat) : Int)) = some 0 := by simp [Array.findIdx?, Array.findIdx?.loop]
theorem fi3 (a b : Value) : (#[⟨kAB, a, 0⟩, ⟨kBA, b, 1⟩] : Array MapEntry).findIdx? (fun e => ((e.born : Nat) : Int) == ((1 : Nat) : Int)) = some 1 := by simp [Array.findIdx?, Array.findIdx?.loop]
section
variable {W : World} {bm c : Nat} {a b v : Value}
theorem lkAB0 (h : W.heap[bm]? = some (.map #[] c)) : (Instr.lookup 68 (.map (some bm)) kAB false).run Tryz.prog W = .ok (.int .i64 0) W := run_lkN h ckAB (f0 W)
theorem lkAB1 (h : W.heap[bm]? = some (.map #[⟨kAB, a, 0⟩] c)) : (Instr.lookup 68 (.map (some bm)) kAB false).run Tryz.prog W = .ok a W := run_lkS h ckAB (f1 a W)
theorem lkBA1 (h : W.heap[bm]? = some (.map #[⟨kAB, a, 0⟩] c)) : (Instr.lookup 68 (.map (some bm)) kBA false).run Tryz.prog W = .ok (.int .i64 0) W := run_lkN h ckBA (f2 a W)
theorem lkAB2 (h : W.heap[bm]? = some (.map #[⟨kAB, a, 0⟩, ⟨kBA, b, 1⟩] c)) : (Instr.lookup 68 (.map (some bm)) kAB false).run Tryz.prog W = .ok a W := run_lkS h ckAB (f3 a b W)
theorem lkBA2 (h : W.heap[bm]? = some (.map #[⟨kAB, a, 0⟩, ⟨kBA, b, 1⟩] c)) : (Instr.lookup 68 (.map (some bm)) kBA false).run Tryz.prog W = .ok b W := run_lkS h ckBA (f4 a b W)
theorem meAB0 (h : W.heap[bm]? = some (.map #[] 0)) : (Instr.mapEntry 68 (.map (some bm)) kAB).run Tryz.prog W = .ok (.tuple #[.int .i64 0, .int .i64 0]) (ChangeMaps.setBlock W bm (.map #[⟨kAB, .int .i64 0, 0⟩] 1)) := run_meN h ckAB (f0 W)
theorem meBA1 (h : W.heap[bm]? = some (.map #[⟨kAB, a, 0⟩] 1)) : (Instr.mapEntry 68 (.map (some bm)) kBA).run Tryz.prog W = .ok (.tuple #[.int .i64 0, .int .i64 1]) (ChangeMaps.setBlock W bm (.map #[⟨kAB, a, 0⟩, ⟨kBA, .int .i64 0, 1⟩] 2)) := run_meN h ckBA (f2 a W)
theorem meAB1 (h : W.heap[bm]? = some (.map #[⟨kAB, a, 0⟩] c)) : (Instr.mapEntry 68 (.map (some bm)) kAB).run Tryz.prog W = .ok (.tuple #[a, .int .i64 0]) (ChangeMaps.setBlock W bm (.map #[⟨kAB, a, 0⟩] c)) := by
  have := run_meS (n := 0) h ckAB (f1 a W) stAB rfl
  rw [mk1] at this
  exact this
theorem meAB2 (h : W.heap[bm]? = some (.map #[⟨kAB, a, 0⟩, ⟨kBA, b, 1⟩] c)) : (Instr.mapEntry 68 (.map (some bm)) kAB).run Tryz.prog W = .ok (.tuple #[a, .int .i64 0]) (ChangeMaps.setBlock W bm (.map #[⟨kAB, a, 0⟩, ⟨kBA, b, 1⟩] c)) := by
  have := run_meS (n := 0) h ckAB (f3 a b W) stAB rfl
  rw [mk2] at this
  exact this
theorem meBA2 (h : W.heap[bm]? = some (.map #[⟨kAB, a, 0⟩, ⟨kBA, b, 1⟩] c)) : (Instr.mapEntry 68 (.map (some bm)) kBA).run Tryz.prog W = .ok (.tuple #[b, .int .i64 1]) (ChangeMaps.setBlock W bm (.map #[⟨kAB, a, 0⟩, ⟨kBA, b, 1⟩] c)) := by
  have := run_meS (n := 1) h ckBA (f4 a b W) stBA rfl
  rw [mk3] at this
  exact this
theorem esAB1 (h : W.heap[bm]? = some (.map #[⟨kAB, a, 0⟩] c)) : (Instr.entryStore 68 (.map (some bm)) (.int .i64 0) v).run Tryz.prog W = .ok () (ChangeMaps.setBlock W bm (.map #[⟨kAB, v, 0⟩] c)) := by
  have := run_es (n := 0) (val := v) h (fi1 a)
  rw [mv1] at this
  exact this
theorem esAB2 (h : W.heap[bm]? = some (.map #[⟨kAB, a, 0⟩, ⟨kBA, b, 1⟩] c)) : (Instr.entryStore 68 (.map (some bm)) (.int .i64 0) v).run Tryz.prog W = .ok () (ChangeMaps.setBlock W bm (.map #[⟨kAB, v, 0⟩, ⟨kBA, b, 1⟩] c)) := by
  have := run_es (n := 0) (val := v) h (fi2 a b)
  rw [mv2] at this
  exact this
theorem esBA2 (h : W.heap[bm]? = some (.map #[⟨kAB, a, 0⟩, ⟨kBA, b, 1⟩] c)) : (Instr.entryStore 68 (.map (some bm)) (.int .i64 1) v).run Tryz.prog W = .ok () (ChangeMaps.setBlock W bm (.map #[⟨kAB, a, 0⟩, ⟨kBA, v, 1⟩] c)) := by
  have := run_es (n := 1) (val := v) h (fi3 a b)
  rw [mv3] at this
  exact this
theorem delBA2 (ty : TypeId) (h : W.heap[bm]? = some (.map #[⟨kAB, a, 0⟩, ⟨kBA, b, 1⟩] c)) : (Builtin.delete_ #[68, 86] ty #[.map (some bm), kBA]).run Tryz.prog W = .ok (.tuple #[]) (ChangeMaps.setBlock W bm (.map #[⟨kAB, a, 0⟩] c)) := by
  have := run_delS ty h ckBA (f4 a b W)
  rw [er2] at this
  exact this
theorem rg_run {es : Array MapEntry} (h : W.heap[bm]? = some (.map es c)) : (Instr.range 68 (.map (some bm))).run Tryz.prog W = .ok (.pointer (some ⟨W.heap.size, 0, none⟩)) (W.alloc (.mapIter (some bm) c #[] c)) := by
  simp [Instr.range, run_underlying Tryz.underlying68, MapKept.run_getObj_map h]
end
section
variable {P : Program} {ops : Array Oper} {Q : Exit → Act → World → Prop} {rest : List Oper} {dst : Option Tmp} {t ty : TypeId} {pos : String} {after : Array Edge} {gd : Option (Nat × Bool)} {a : Act} {w w' : World} {b : Nat} {key v : Value}
theorem wpl_lkr {m x : Operand} (hw : Region.wanted ⟨dst, .lookup t m x false, ty, pos, after, gd⟩ (yielded ops a.tmps) = true) (hm : a.eval m = .map (some b)) (hx : a.eval x = key) (hr : (Instr.lookup t (.map (some b)) key false).run P w = .ok v w) (hR : wpList P ops Q rest (a.put dst v) w) :
    wpList P ops Q (⟨dst, .lookup t m x false, ty, pos, after, gd⟩ :: rest) a w := Any.wpl hw (ok_lkr hm hx hr hR)
theorem wpl_der {m x : Operand} {t2 : TypeId} (hw : Region.wanted ⟨dst, .call ⟨.builtin .delete, #[m, x], #[t, t2]⟩, ty, pos, after, gd⟩ (yielded ops a.tmps) = true) (hm : a.eval m = .map (some b)) (hx : a.eval x = key) (hr : ∀ ty, (Builtin.delete_ #[t, t2] ty #[.map (some b), key]).run P w = .ok v w') (hR : wpList P ops Q rest (a.put dst v) w') :
    wpList P ops Q (⟨dst, .call ⟨.builtin .delete, #[m, x], #[t, t2]⟩, ty, pos, after, gd⟩ :: rest) a w := Any.wpl hw (ok_der hm hx (hr ty) hR)
theorem wpl_rgr {m : Operand} (hw : Region.wanted ⟨dst, .range t m, ty, pos, after, gd⟩ (yielded ops a.tmps) = true) (hm : a.eval m = .map (some b)) (hr : (Instr.range t (.map (some b))).run P w = .ok v w') (hR : wpList P ops Q rest (a.put dst v) w') :
    wpList P ops Q (⟨dst, .range t m, ty, pos, after, gd⟩ :: rest) a w := Any.wpl hw (by
  unfold Any.OpOk
  simp [execOp, hm, hr, Result.andThen]
  exact hR)
theorem wpl_nxr {it : Operand} {r bm since c0 clock : Nat} {seen : Array Nat} {es : Array MapEntry} (hw : Region.wanted ⟨dst, .next it false, ty, pos, after, gd⟩ (yielded ops a.tmps) = true) (hit : a.eval it = .pointer (some ⟨r, 0, none⟩))
    (hr : w.heap[r]? = some (.mapIter (some bm) since seen c0)) (hb : w.heap[bm]? = some (.map es clock)) (hold : ∀ x ∈ es.toList, x.born < since) (hsc : since ≤ c0)
    (hDone : (leftOf es seen).size = 0 → wpList P ops Q rest (a.put dst (.tuple #[.bool false])) w)
    (hMore : ∀ e ∈ (leftOf es seen).toList, ∀ w1 : World, (w1 = w ∨ w1 = w.drew) → wpList P ops Q rest (a.put dst (.tuple #[.bool true, e.key, e.val])) (ChangeMaps.setBlock w1 r (.mapIter (some bm) since (seen.push e.born) clock))) :
    wpList P ops Q (⟨dst, .next it false, ty, pos, after, gd⟩ :: rest) a w := Any.wpl hw (by
  unfold Any.OpOk
  rcases run_next_at (P := P) w ty r bm since c0 seen es clock hr hb hold hsc with ⟨h0, hrun⟩ | ⟨e, he, w1, hw1, hrun⟩
  · simp [execOp, hit, hrun, Result.andThen]
    exact hDone h0
  · simp [execOp, hit, hrun, Result.andThen]
    exact hMore e he w1 hw1)
theorem wpl_nxN {it : Operand} {r bm since c0 clock : Nat} {seen : Array Nat} {es : Array MapEntry} (hw : Region.wanted ⟨dst, .next it false, ty, pos, after, gd⟩ (yielded ops a.tmps) = true) (hit : a.eval it = .pointer (some ⟨r, 0, none⟩))
    (hr : w.heap[r]? = some (.mapIter (some bm) since seen c0)) (hb : w.heap[bm]? = some (.map es clock)) (hold : ∀ x ∈ es.toList, x.born < since) (hsc : since ≤ c0) (hL : (leftOf es seen).toList = [])
    (hDone : wpList P ops Q rest (a.put dst (.tuple #[.bool false])) w) : wpList P ops Q (⟨dst, .next it false, ty, pos, after, gd⟩ :: rest) a w :=
  wpl_nxr hw hit hr hb hold hsc (fun _ => hDone) (fun e he => by rw [hL] at he; cases he)
end
/-- The iterator turned: all else stays. -/
theorem nx_kept {w w1 : World} {r : Nat} {o o' : Obj} (hr : w.heap[r]? = some o) (hw : w1 = w ∨ w1 = w.drew) : Keep (fun x => x = r) w (ChangeMaps.setBlock w1 r o') ∧ (ChangeMaps.setBlock w1 r o').heap[r]? = some o' := by
  have hl := lt_blk hr
  rcases hw with rfl | rfl
  · refine ⟨⟨rfl, rfl, rfl, by simp [ChangeMaps.setBlock], fun i _ hi => ?_⟩, by simp [ChangeMaps.setBlock, hl]⟩
    have : ¬ r = i := fun e => hi e.symm
    simp [ChangeMaps.setBlock, this]
  · refine ⟨⟨rfl, rfl, rfl, by simp [ChangeMaps.setBlock], fun i _ hi => ?_⟩, by simp [ChangeMaps.setBlock, hl]⟩
    have : ¬ r = i := fun e => hi e.symm
    simp [ChangeMaps.setBlock, this]
    rfl
section
variable {P : Program} {ops : Array Oper} {Q : Exit → Act → World → Prop} {rest : List Oper} {dst : Option Tmp} {t ty : TypeId} {pos : String} {after : Array Edge} {gd : Option (Nat × Bool)} {a : Act} {w w' : World}
/-- One more entry is handed out. -/
def NxP (P : Program) (w : World) (r bm since clock : Nat) (seen : Array Nat) (es : Array MapEntry) (e : MapEntry) (w' : World) : Prop :=
  Keep (fun x => x = r) w w' ∧ w'.heap[r]? = some (.mapIter (some bm) since (seen.push e.born) clock) ∧ w'.heap[bm]? = some (.map es clock) ∧ (Instr.entry (.pointer (some ⟨r, 0, none⟩))).run P w' = .ok (.tuple #[e.key, e.val]) w'
theorem wpl_nxS {it : Operand} {r bm since c0 clock : Nat} {seen : Array Nat} {es : Array MapEntry} {L : List MapEntry} (hw : Region.wanted ⟨dst, .next it false, ty, pos, after, gd⟩ (yielded ops a.tmps) = true) (hit : a.eval it = .pointer (some ⟨r, 0, none⟩))
    (hr : w.heap[r]? = some (.mapIter (some bm) since seen c0)) (hb : w.heap[bm]? = some (.map es clock)) (hold : ∀ x ∈ es.toList, x.born < since) (hsc : since ≤ c0) (hn : (es.toList.map (·.born)).Nodup) (hL : (leftOf es seen).toList = L ∧ L ≠ [])
    (hMore : ∀ e ∈ L, ∀ w' : World, NxP P w r bm since clock seen es e w' → wpList P ops Q rest (a.put dst (.tuple #[.bool true, e.key, e.val])) w') :
    wpList P ops Q (⟨dst, .next it false, ty, pos, after, gd⟩ :: rest) a w :=
  wpl_nxr hw hit hr hb hold hsc (fun h => absurd (List.eq_nil_of_length_eq_zero (by rw [← hL.1, Array.length_toList]; exact h)) hL.2) (fun e he w1 hw1 => by
    obtain ⟨hk, h1⟩ := nx_kept (o' := .mapIter (some bm) since (seen.push e.born) clock) hr hw1
    have hne : ¬ bm = r := fun e2 => by
      rw [e2] at hb
      rw [hb] at hr
      cases hr
    have h2 := hk.blk hb hne
    have hxe : e ∈ es.toList := by
      unfold leftOf at he
      rw [Array.toList_filter] at he
      exact (List.mem_filter.1 he).1
    exact hMore e (hL.1 ▸ he) _ ⟨hk, h1, h2, run_entry_at (P := P) _ r bm since seen es clock e h1 h2 hxe hn⟩)
end
def itLeft4 (w : World) (r b : Nat) : Nat :=
  match w.heap[r]?, w.heap[b]? with
  | some (.mapIter _ _ seen _), some (.map es _) => (leftOf es seen).size
  | _, _ => 0
theorem lf1 : (leftOf #[⟨kAB, .int .i64 5, 0⟩, ⟨kBA, .int .i64 3, 1⟩] #[]).size = 2 := by kernel_rfl
theorem lf2 : (leftOf #[⟨kAB, .int .i64 2, 0⟩] #[0]).size = 0 := by kernel_rfl
theorem lf3 : (leftOf #[⟨kAB, .int .i64 2, 0⟩] #[1]).size = 1 := by kernel_rfl
theorem lf4 : (leftOf #[⟨kAB, .int .i64 2, 0⟩] #[1, 0]).size = 0 := by kernel_rfl
end Go.Proofs.YtbigoifpfkdkjaaGreat.Sc
