/- The document's rows of receipts: one got, one put, one taken away. -/
import Derived.Test.YticnmmfiadpbbaaGreatRf25
import Derived.Outline
namespace Go.Proofs.YticnmmfiadpbbaaGreat.Sc
open Go Go.RowKit Go.ChangeShapes Go.WideShapes Go.ChangeAt
set_option maxRecDepth 100000

theorem results_row_tmp {P : Program} {fn : Func} {p u : Tmp} {ty : TypeId} (h : fn.results = #[.cell p ty, .tmp u]) (tmps : Array Value) (w : World) (g : Nat) (t : TypeId) (cs : Array Value) (fr : Nat × Nat) (d : TypeDesc) (v : Value)
    (hp : tmps.getD p undef = .pointer (some ⟨g, 0, none⟩)) (hq : tmps.getD u undef = v) (hg : w.heap[g]? = some (.cells cs t fr))
    (hu : P.underlying ty = some d) (hd : (match d with | .struct _ | .array _ _ => true | _ => false) = true) (hi : (P.info? ty).map (·.size) = some cs.size) :
    (results fn tmps).run P w = .ok (.tuple #[.agg cs, v]) w := by
  have hp' : tmps[p]?.getD undef = .pointer (some ⟨g, 0, none⟩) := by simpa using hp
  have hq' : tmps[u]?.getD undef = v := by simpa using hq
  rw [results_cell_tmp h]
  simp [hp', hq', asAddr, run_loadVar_row w g t ty cs fr d hg hu hd hi, Result.andThen]
theorem setRow_at {w : World} {g : Nat} {old cs : Array Value} {t : TypeId} {fr : Nat × Nat} (h : w.heap[g]? = some (.cells old t fr)) : (w.setRow g cs).heap[g]? = some (.cells cs t fr) := by
  simp [World.setRow, Array.getElem?_modify, h]
theorem below_setRow {B : Nat} {w w' : World} (h : Below B w w') {g : Nat} (hg : B ≤ g) (cs : Array Value) : Below B w (w'.setRow g cs) :=
  ⟨h.os, h.tape, h.output, by have := h.size; simpa [World.setRow] using this, fun k hk => by
    have : ¬ g = k := by omega
    rw [← h.block k hk]
    simp [World.setRow, Array.getElem?_modify, this]⟩
def zeroRv : Array Value := #[.string ⟨#[]⟩, .string ⟨#[]⟩, .string ⟨#[]⟩, .slice none 0 0, .int .i64 0]
def GetP (w : World) (M : List Rv) (n : ByteArray) (e : Ending) (w' : World) : Prop :=
  Below w.heap.size w w' ∧ ((rfind (rcsOf M) n = none ∧ e = .returned (.tuple #[.agg zeroRv, .bool false])) ∨ ∃ x ∈ M, rfind (rcsOf M) n = some x.rc ∧ e = .returned (.tuple #[.agg x.cells, .bool true]))
theorem info5 : (Tryz.prog.info? 34).map (·.size) = some 5 := by kernel_rfl
theorem rv_all {w : World} {x : Rv} (h : RvOk w x) : x.cells.all (·.oneCell') = true := by
  obtain ⟨a, c, e⟩ := Sl.shape h
  simp [Rv.cells, e, Value.oneCell']
theorem getRes : (Tryz.f8).results = #[.cell 4 34, .tmp 5] := by kernel_rfl
set_option maxHeartbeats 8000000 in
theorem refGet_any (M : List Rv) (name n : ByteArray) (v u : Value) (w : World) (hs : Sl w 5 v (M.map Rv.row)) (hok : ∀ x ∈ M, RvOk w x) :
    Calls Tryz.prog 8 #[.agg #[.string name, v, u], .string n] w (GetP w M n) := by
  have hll : M.length ≤ 9223372036854775807 := by have := hs.len_le; simp only [List.length_map, maxLen] at this; omega
  have HFI := Lib.hid (fun W (hW : Below w.heap.size w W) => refFind_any M name n v u W (hs.below hW (Nat.le_refl _)))
  have HS := Lib.hid hs
  have HOK := Lib.hid hok
  obtain ⟨a, c, rfl⟩ : ∃ a c, v = .slice a M.length c := by simpa using hs.shape
  clear hs hok
  have HW : Hid (∀ W1 W2 : World, W1 = w.alloc (.cells #[.string name, .slice a M.length c, u] 29) → W2 = W1.alloc (.cells zeroRv 34) →
      W2.heap.size = w.heap.size + 2 ∧ W1.heap.size = w.heap.size + 1 ∧ Below w.heap.size w W2 ∧ W2.heap[w.heap.size]? = some (.cells #[.string name, .slice a M.length c, u] 29 (0, 0)) ∧ W2.heap[w.heap.size + 1]? = some (.cells zeroRv 34 (0, 0))) := Lib.hid (by
    rintro W1 W2 rfl rfl
    have e1 : (w.alloc (.cells #[.string name, .slice a M.length c, u] 29)).heap.size = w.heap.size + 1 := by simp
    refine ⟨by simp, e1, (one_below w _).alloc (by simp) _, ?_, ?_⟩
    · rw [heap_alloc_old _ _ (show w.heap.size < _ by rw [e1]; omega)]; exact heap_alloc_new _ _
    · have := heap_alloc_new (w.alloc (.cells #[.string name, .slice a M.length c, u] 29)) (.cells zeroRv 34)
      rwa [e1] at this)
  obtain ⟨w1, hw1⟩ : ∃ W, W = w.alloc (.cells #[.string name, .slice a M.length c, u] 29) := ⟨_, rfl⟩
  obtain ⟨w2, hw2⟩ : ∃ W, W = w1.alloc (.cells zeroRv 34) := ⟨_, rfl⟩
  obtain ⟨z2, z1, b2, x2, y2⟩ := HW.out w1 w2 hw1 hw2
  have c0 := cell_blk x2 0
  have c1 := cell_blk x2 1
  have c2 := cell_blk x2 2
  simp only [List.getElem?_toArray, List.getElem?_cons_succ, List.getElem?_cons_zero] at c0 c1 c2
  obtain ⟨bz, hbz⟩ : ∃ b, b = w.heap.size + 1 := ⟨_, rfl⟩
  have HBZ := Lib.hid hbz
  rw [← hbz] at z1 y2
  obtain ⟨bx, hbx⟩ : ∃ b, b = w.heap.size := ⟨_, rfl⟩
  have HBX := Lib.hid hbx
  rw [← hbx] at x2 c0 c1 c2
  have X2 := Lib.hid x2
  have Y2 := Lib.hid y2
  have B2 := Lib.hid b2
  have Z2 := Lib.hid z2
  have e1 := hw1.symm
  have e2 := hw2.symm
  have e3 := hbx.symm
  unfold zeroRv at e2
  clear hw1 hw2 hbx hbz x2 y2 b2 z2 HW
  go_enter Tryz.func8, Tryz.ntmps8
  go_wp2_with fail
  refine (HFI.out _ B2.out).mono ?_
  rintro e w3 ⟨hb3, hcase⟩
  have Z3 : Hid (w.heap.size ≤ bx ∧ w.heap.size ≤ bz ∧ bx < w2.heap.size ∧ bz < w2.heap.size) := Lib.hid (by have := HBX.out; have := HBZ.out; have := Z2.out; omega)
  have X3 := Lib.hid (blk hb3 Z3.out.2.2.1 X2.out)
  have Y3 := Lib.hid (blk hb3 Z3.out.2.2.2 Y2.out)
  have B3 := Lib.hid (B2.out.trans (hb3.mono B2.out.size))
  clear hb3 c0 c1 c2 e1 e2 e3
  rcases hcase with ⟨h1, rfl⟩ | ⟨k, hlt, h1, rfl⟩
  · have H1 := Lib.hid h1
    obtain ⟨m1, hm1⟩ : ∃ m : Int, m = -1 := ⟨_, rfl⟩
    rw [← hm1]
    have t1 : decide (m1 < 0) = true := by rw [hm1]; rfl
    clear hm1 h1
    go_wp2_with (first
      | (refine wpList_store_row (P := Tryz.prog) rfl 34 (.tmp 4) (.tmp 12) rfl bz zeroRv rfl rfl _ _ Y3.out (by kernel_rfl) rfl (by simp [zeroRv, Value.oneCell']) ?_)
      | fail)
    have Y4 : Hid ((w3.setRow bz zeroRv).heap[bz]? = some (.cells zeroRv 34 (0, 0))) := Lib.hid (setRow_at Y3.out)
    ((try simp only [Exit.inBlock, Exit.then]); refine bodyPost_ret (results_row_tmp getRes _ _ bz _ zeroRv (0, 0) _ (.bool false) rfl rfl Y4.out Tryz.underlying34 rfl (by kernel_rfl)) rfl ?_)
    exact ⟨below_setRow B3.out Z3.out.2.1 _, .inl ⟨H1.out, rfl⟩⟩
  · obtain ⟨b, off, rfl, hb, hc⟩ := sl_rv HS.out hlt
    obtain ⟨d0, d1, d2, d3, d4⟩ := hc.below B3.out hb
    have HLT := Lib.hid hlt
    have HX : Hid (RvOk w M[k] ∧ M[k] ∈ M ∧ rfind (rcsOf M) n = some M[k].rc) := Lib.hid ⟨HOK.out _ (List.getElem_mem hlt), List.getElem_mem hlt, h1⟩
    have t1 : decide ((k : Int) < 0) = false := decide_eq_false (by omega)
    have t2 : (k : Int) < (M.length : Int) := by omega
    have c1 := cell_blk X3.out 1
    simp only [List.getElem?_toArray, List.getElem?_cons_succ, List.getElem?_cons_zero] at c1
    clear hc h1
    generalize M[k] = x at *
    obtain ⟨⟨xn, xh, xo, xl, xd⟩, xv⟩ := x
    simp only at d0 d1 d2 d3 d4
    go_wp2_with (first
      | (refine wpList_store_row (P := Tryz.prog) rfl 34 (.tmp 4) (.tmp 17) rfl bz (Rv.cells ⟨⟨xn, xh, xo, xl, xd⟩, xv⟩) rfl rfl _ _ Y3.out (by kernel_rfl) rfl (rv_all HX.out.1) ?_)
      | fail)
    have Y4 : Hid ((w3.setRow bz (Rv.cells ⟨⟨xn, xh, xo, xl, xd⟩, xv⟩)).heap[bz]? = some (.cells (Rv.cells ⟨⟨xn, xh, xo, xl, xd⟩, xv⟩) 34 (0, 0))) := Lib.hid (setRow_at Y3.out)
    ((try simp only [Exit.inBlock, Exit.then]); refine bodyPost_ret (results_row_tmp getRes _ _ bz _ (Rv.cells ⟨⟨xn, xh, xo, xl, xd⟩, xv⟩) (0, 0) _ (.bool true) rfl rfl Y4.out Tryz.underlying34 rfl (by kernel_rfl)) rfl ?_)
    exact ⟨below_setRow B3.out Z3.out.2.1 _, .inr ⟨_, HX.out.2.1, HX.out.2.2, rfl⟩⟩
end Go.Proofs.YticnmmfiadpbbaaGreat.Sc
