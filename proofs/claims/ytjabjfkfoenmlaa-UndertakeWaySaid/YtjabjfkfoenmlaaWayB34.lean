/- Words for the walk of UndertakeWay. -/
import Derived.Test.YtjabjfkfoenmlaaWayA34
import Derived.Test.YtjabjfkfoenmlaaBound34
import Derived.Test.YtjabjfkfoenmlaaClone34
import Derived.Test.YtjabjfkfoenmlaaTerms34
import Derived.ChangeMaps5
namespace Go.Proofs.Ytjabjfkfoenmlaa.Sc
open Go Go.RowKit Go.ChangeShapes Go.WideShapes Go.ChangeAt
set_option maxRecDepth 100000

/-- A number of which something is known. -/
def numS (P : Int → Prop) : Any.Spec := ⟨fun v _ => ∃ n, v = .int .i64 n ∧ P n, fun _ => none, []⟩
theorem lasts_num {w0 : World} (P : Int → Prop) : Any.Lasts (numS P) w0 := ⟨(fun _ _ _ _ h => by cases h), fun _ _ _ h _ _ _ _ => h⟩
def SomeN (P : Int → Prop) (w : World) (e : Ending) (w' : World) : Prop := ∃ n, e = .returned (.int .i64 n) ∧ P n ∧ Below w.heap.size w w'
theorem refLeast_some (c : Cr) (w : World) : Calls Try.prog 21 #[.agg c.cells] w (SomeN (fun n => c.bnd = true → n = c.least) w) := by
  cases hb : c.bnd
  · have HS : Hid (∀ n w', Below w.heap.size w w' → SomeN (fun n => false = true → n = c.least) w (.returned (.int .i64 n)) w') := Lib.hid (fun n w' h => ⟨n, rfl, (by simp), h⟩)
    clear hb
    go_enter Try.func21, Try.ntmps21
    go_wp2
    all_goals
      go_ret
      exact HS.out _ _ (one_below _ _)
  · exact (refLeast_any c w ((bnd_iff c).1 hb)).mono fun e w' h => ⟨_, h.1, fun _ => rfl, h.2⟩
theorem refMost_some (c : Cr) (w : World) : Calls Try.prog 18 #[.agg c.cells] w (SomeN (fun n => c.bnd = true → n = c.most) w) := by
  cases hb : c.bnd
  · have HS : Hid (∀ n w', Below w.heap.size w w' → SomeN (fun n => false = true → n = c.most) w (.returned (.int .i64 n)) w') := Lib.hid (fun n w' h => ⟨n, rfl, (by simp), h⟩)
    clear hb
    go_enter Try.func18, Try.ntmps18
    go_wp2
    all_goals
      go_ret
      exact HS.out _ _ (one_below _ _)
  · exact (refMost_any c w ((bnd_iff c).1 hb)).mono fun e w' h => ⟨_, h.1, fun _ => rfl, h.2⟩

theorem tm_more {w : World} {b : Nat} {t : Tm} (h : w.heap[b]? = some (.cells t.cells 23 (0, 0))) : w.cell? ⟨b, 8, none⟩ = some (.bool t.part) ∧ w.cell? ⟨b, 7, none⟩ = some (.int .i64 t.expiry) := ⟨cell_blk h 8, cell_blk h 7⟩
def dayCells (d0 d1 d2 d3 d4 d5 : Int) : Array Value := #[.int .i64 d0, .int .i64 d1, .int .i64 d2, .int .i64 d3, .int .i64 d4, .int .i64 d5]
theorem day_cells {w : World} {b : Nat} {T : TypeId} {d0 d1 d2 d3 d4 d5 : Int} (h : w.heap[b]? = some (.cells #[.int .i64 d0, .int .i64 d1, .int .i64 d2, .int .i64 d3, .int .i64 d4, .int .i64 d5] T (0, 0))) :
    w.cell? ⟨b, 0, none⟩ = some (.int .i64 d0) ∧ w.cell? ⟨b, 1, none⟩ = some (.int .i64 d1) ∧ w.cell? ⟨b, 2, none⟩ = some (.int .i64 d2) ∧ w.cell? ⟨b, 3, none⟩ = some (.int .i64 d3) ∧ w.cell? ⟨b, 4, none⟩ = some (.int .i64 d4) ∧ w.cell? ⟨b, 5, none⟩ = some (.int .i64 d5) :=
  ⟨cell_blk h 0, cell_blk h 1, cell_blk h 2, cell_blk h 3, cell_blk h 4, cell_blk h 5⟩
/-- What the two boxes read. -/
def WReads (t : Tm) (d0 d1 d2 d3 d4 d5 : Int) (b : Nat) (w : World) : Prop :=
  w.cell? ⟨b, 0, none⟩ = some (.string t.iss) ∧ w.cell? ⟨b, 1, none⟩ = some (.string t.app) ∧ w.cell? ⟨b, 2, none⟩ = some (.string t.ben) ∧ w.cell? ⟨b, 3, none⟩ = some (.string t.con) ∧
  w.cell? ⟨b + 1, 0, none⟩ = some (.int .i64 d0) ∧ w.cell? ⟨b + 1, 1, none⟩ = some (.int .i64 d1) ∧ w.cell? ⟨b + 1, 2, none⟩ = some (.int .i64 d2) ∧ w.cell? ⟨b + 1, 3, none⟩ = some (.int .i64 d3) ∧ w.cell? ⟨b + 1, 4, none⟩ = some (.int .i64 d4) ∧ w.cell? ⟨b + 1, 5, none⟩ = some (.int .i64 d5)
theorem reads_of {w : World} {b : Nat} {t : Tm} {T : TypeId} {d0 d1 d2 d3 d4 d5 : Int} (h : w.heap[b]? = some (.cells t.cells 23 (0, 0)))
    (h2 : w.heap[b + 1]? = some (.cells #[.int .i64 d0, .int .i64 d1, .int .i64 d2, .int .i64 d3, .int .i64 d4, .int .i64 d5] T (0, 0))) : WReads t d0 d1 d2 d3 d4 d5 b w :=
  ⟨cell_blk h 0, cell_blk h 1, cell_blk h 2, cell_blk h 3, cell_blk h2 0, cell_blk h2 1, cell_blk h2 2, cell_blk h2 3, cell_blk h2 4, cell_blk h2 5⟩
theorem bl_alloc {w0 w : World} (h : Below w0.heap.size w0 w) (o : Obj) : Below w0.heap.size w0 (w.alloc o) := h.alloc h.size _
theorem lit_own {w : World} {B n sz : Nat} {T : TypeId} {cs : Array Value} (hB : B ≤ w.heap.size) (hn : cs.size = n * sz) (hm : n ≤ maxLen) : (w.alloc (.cells cs T)).ownsRow B T sz (.slice (some ⟨w.heap.size, 0, none⟩) n n) n cs.toList :=
  ⟨by simpa using hn, .inr ⟨w.heap.size, n, cs, rfl, hB, heap_alloc_new _ _, Nat.le_refl _, hm, hn, by rw [← hn, ← Array.length_toList]; exact List.take_length⟩⟩
theorem ev_lits (cs : Array Value) (h : (cs.all fun u => u.oneCell') = true) : ∀ u ∈ cs.toList, u.oneCell' = true := by
  intro u hu
  exact (Array.all_eq_true_iff_forall_mem.1 h) u (by simpa using hu)
theorem shown_kept {w w' : World} {r : Option Nat} {b : Nat} {o : Obj} (hg : w.grownBy w' r) (hb : w.heap[b]? = some o) (hne : r ≠ some b) : w'.heap[b]? = some o := (hg.block b (lt_blk hb) (fun e => hne e.symm)).trans hb
theorem own_ne {w : World} {B n sz b : Nat} {T : TypeId} {v : Value} {xs : List Value} (h : w.ownsRow B T sz v n xs) (hb : w.heap.size ≤ b) : v.ownBlock ≠ some b := fun e => by have := (h.lt b e).2; omega
theorem ev_cells4 {w : World} {b : Nat} {T : TypeId} {x0 x1 x2 x3 : Value} (h : w.heap[b]? = some (.cells #[x0, x1, x2, x3] T (0, 0))) : w.cell? ⟨b, 0, none⟩ = some x0 ∧ w.cell? ⟨b, 1, none⟩ = some x1 ∧ w.cell? ⟨b, 2, none⟩ = some x2 ∧ w.cell? ⟨b, 3, none⟩ = some x3 :=
  ⟨cell_blk h 0, cell_blk h 1, cell_blk h 2, cell_blk h 3⟩
theorem owes_six (bk : Nat) (l : Lf) (F : Nat → Prop) (p : ByteArray) (w : World) (h : Lv w 74 F bk l) (hs : l.st = 6) :
    Calls Try.prog 17 #[.pointer (some ⟨bk, 0, none⟩), .string p] w (Ret w (.tuple #[.int .i64 0, .bool false])) := by
  obtain ⟨vp, ve, hw⟩ := h
  have := owes_any bk l vp ve p w hw.box
  have ho : l.owes p = false := by simp [Lf.owes, hs]
  rw [ho] at this
  exact this
theorem state_six (bk : Nat) (l : Lf) (F : Nat → Prop) (w : World) (h : Lv w 74 F bk l) (hs : l.st = 6) :
    Calls Try.prog 19 #[.pointer (some ⟨bk, 0, none⟩)] w (Ret w (.int .i64 6)) := by
  obtain ⟨vp, ve, hw⟩ := h
  have := state_any bk l vp ve w hw.box
  rw [hs] at this
  exact this
/-- An argument that is six days. -/
theorem open_days {H : Type} {enc : TypeId × Value → H} {W : World} {base : Nat} {v : Value} {d : DataW H} {p : List MemPlace} (hv : Value.okWide Try.prog W .any base 48 v)
    (h : DataW.Trod enc Try.prog W 0 (fun _ => true) true 48 v d p) : ∃ d0 d1 d2 d3 d4 d5 : Int, v = .agg #[.int .i64 d0, .int .i64 d1, .int .i64 d2, .int .i64 d3, .int .i64 d4, .int .i64 d5] := by
  have hv' : ∃ cs, v = .agg cs := by
    simp only [Value.okWide, Try.underlying48] at hv
    obtain ⟨cs, h1, _⟩ := hv
    exact ⟨cs, h1⟩
  obtain ⟨cs, rfl⟩ := hv'
  obtain ⟨fuel, hf⟩ := h
  obtain ⟨xs, m, _, _, hl, hxl, hg⟩ := DataW.trod_array Try.underlying48 hf
  have hc : Try.prog.cellsOf 3 = 1 := by kernel_rfl
  have hc6 : Try.prog.cellsOf 48 = 6 := by kernel_rfl
  rw [hc6] at hl
  rw [hc] at hg
  obtain ⟨cs⟩ := cs
  simp only [Value.cells] at hl hg
  match cs, hl with
  | [c0, c1, c2, c3, c4, c5], _ =>
    have key : ∀ (i : Nat) (c : Value), i < 6 → ((([c0, c1, c2, c3, c4, c5] : List Value).drop (i * 1)).take 1) = [c] → ∃ n, c = .int .i64 n := by
      intro i c hi hcc
      have h1 := hg i hi
      rw [hcc, List.getElem?_eq_getElem (by omega)] at h1
      obtain ⟨s, e, _, _⟩ := DataW.trod_int Try.underlying3 h1
      exact ⟨s, by simpa using e⟩
    obtain ⟨n0, rfl⟩ := key 0 c0 (by decide) rfl
    obtain ⟨n1, rfl⟩ := key 1 c1 (by decide) rfl
    obtain ⟨n2, rfl⟩ := key 2 c2 (by decide) rfl
    obtain ⟨n3, rfl⟩ := key 3 c3 (by decide) rfl
    obtain ⟨n4, rfl⟩ := key 4 c4 (by decide) rfl
    obtain ⟨n5, rfl⟩ := key 5 c5 (by decide) rfl
    exact ⟨n0, n1, n2, n3, n4, n5, rfl⟩

theorem ok_load_tm {dst : Option Tmp} {ty : TypeId} {pos : String} {after : Array Edge} {gd : Option (Nat × Bool)} {ρ : Operand → Value} {w : World} {R : Value → World → Prop} {x : Operand} {g : Nat} {t : Tm} (hx : ρ x = .pointer (some ⟨g, 0, none⟩))
    (hg : w.heap[g]? = some (.cells t.cells 23 (0, 0))) (hR : R (.agg t.cells) w) : Any.OpOk Try.prog ⟨dst, .load 23 x, ty, pos, after, gd⟩ ρ w R := by
  have hr := tm_run hg
  have h2 : (Instr.loadAt 23 (.pointer (some ⟨g, 0, none⟩))).run Try.prog w = .ok (.agg t.cells) w := by
    unfold Instr.loadAt
    simpa [Instr.sureAddr, Result.andThen] using hr
  unfold Any.OpOk
  simp [execOp, hx, h2, Result.andThen]
  exact hR
section
variable {P : Program} {ops : Array Oper} {Q : Exit → Act → World → Prop}
theorem wpl_app {te e : TypeId} {i : TypeInfo} {z : Value} {size bytes base : Nat} {n m : Nat} {xs : List Value} {dst : Option Tmp} {x y : Operand} {t : TypeId} {pos : String} {after : Array Edge} {gd : Option (Nat × Bool)} {cs : Array Value} {vs : Value} {a : Act} {w : World} {b : Nat} {rest : List Oper}
    (hw : Region.wanted ⟨dst, .call ⟨.builtin .append, #[x, y], #[te, te]⟩, t, pos, after, gd⟩ (yielded ops a.tmps) = true) (hx : a.eval x = vs) (hy : a.eval y = .slice (some ⟨b, 0, none⟩) m m)
    (hu : P.underlying te = some (.slice e)) (hi : P.info? e = some i) (hz : i.zero = some z)
    (hsz : i.size = size) (hby : i.bytes = bytes) (hzs : z.cells.size = size) (hpos : 0 < size) (hown : w.ownsRow base e size vs n xs) (hb : w.heap[b]? = some (.cells cs e (0, 0))) (hcs : cs.size = m * size) (h1 : ∀ u ∈ cs.toList, u.oneCell' = true)
    (h63 : n + m ≤ maxLen) (hbb : (n + m) * bytes ≤ 140737488355328) (hbase : base ≤ w.heap.size)
    (h : ∀ v' w', w'.ownsRow base e size v' (n + m) (xs ++ cs.toList) → w.grownBy w' vs.ownBlock → (∀ b, v'.ownBlock = some b → vs.ownBlock = some b ∨ w.heap.size ≤ b) → wpList P ops Q rest (a.put dst v') w') :
    wpList P ops Q (⟨dst, .call ⟨.builtin .append, #[x, y], #[te, te]⟩, t, pos, after, gd⟩ :: rest) a w :=
  Any.wpl_append hw hx hy hu hi hz hsz hby hzs hpos hown (src_block hb hcs) h1 h63 hbb hbase h
end
end Go.Proofs.Ytjabjfkfoenmlaa.Sc
