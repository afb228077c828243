/- What the register tells: the names, an original's chain. What the register tells: an original's endorsements (Chain). The register's beginning (New). What the register tells of the three originals of a bill (Originals). What becomes of a bill by deeds: each chain is right, and ends with who holds it; plain. -/
import Derived.Test.YtbigoifpfkdkjaaGreatDoorTe10
import Derived.Test.YtbigoifpfkdkjaaGreatDoorTe13
namespace Go.Proofs.YtbigoifpfkdkjaaGreatDoor.Sc
open Go Go.RowKit Go.ChangeShapes Go.WideShapes Go.ChangeAt
set_option maxRecDepth 100000

def nmB (b : Int) : ByteArray := if b % 3 = 0 then ⟨#[115]⟩ else if b % 3 = 1 then ⟨#[98, 97, 110, 107]⟩ else ⟨#[121]⟩
set_option maxHeartbeats 1000000 in
theorem names_any (b : Int) (h0 : 0 ≤ b) (h1 : b ≤ 255) (w : World) : Calls Tryz.prog 18 #[.int .u8 b] w (Ret w (.string (nmB b))) := by
  have HB := Lib.hid (one_below w (.cells #[.string ⟨#[115]⟩, .string ⟨#[98, 97, 110, 107]⟩, .string ⟨#[121]⟩] 9))
  have h3 : b % 3 = 0 ∨ b % 3 = 1 ∨ b % 3 = 2 := by omega
  rcases h3 with h | h | h
  · have hv : nmB b = ⟨#[115]⟩ := by rw [nmB, if_pos h]
    rw [hv]
    clear hv
    go_enter Tryz.func18, Tryz.ntmps18
    go_wp2_with fail
    go_ret
    exact ⟨rfl, HB.out⟩
  · have hv : nmB b = ⟨#[98, 97, 110, 107]⟩ := by rw [nmB, if_neg (by omega), if_pos h]
    rw [hv]
    clear hv
    go_enter Tryz.func18, Tryz.ntmps18
    go_wp2_with fail
    go_ret
    exact ⟨rfl, HB.out⟩
  · have hv : nmB b = ⟨#[121]⟩ := by rw [nmB, if_neg (by omega), if_neg (by omega)]
    rw [hv]
    clear hv
    go_enter Tryz.func18, Tryz.ntmps18
    go_wp2_with fail
    go_ret
    exact ⟨rfl, HB.out⟩
theorem results_rt {P : Program} {fn : Func} {p u : Tmp} {ty : TypeId} (h : fn.results = #[.cell p ty, .tmp u]) (tmps : Array Value) (w : World) (g : Nat) (t : TypeId) (cs : Array Value) (fr : Nat × Nat) (d : TypeDesc) (v : Value)
    (hp : tmps.getD p undef = .pointer (some ⟨g, 0, none⟩)) (hq : tmps.getD u undef = v) (hg : w.heap[g]? = some (.cells cs t fr))
    (hu : P.underlying ty = some d) (hd : (match d with | .struct _ | .array _ _ => true | _ => false) = true) (hi : (P.info? ty).map (·.size) = some cs.size) :
    (results fn tmps).run P w = .ok (.tuple #[.agg cs, v]) w := by
  have hp' : tmps[p]?.getD undef = .pointer (some ⟨g, 0, none⟩) := by simpa using hp
  have hq' : tmps[u]?.getD undef = v := by simpa using hq
  rw [results_cell_tmp h]
  simp [hp', hq', asAddr, run_loadVar_row w g t ty cs fr d hg hu hd hi, Result.andThen]
theorem orgRRes : (Tryz.f75).results = #[.cell 6 149, .tmp 7] := by kernel_rfl
set_option maxHeartbeats 4000000 in
theorem originalR_any (k : Int) (kn : Nat) (hk : (k = 0 ∧ kn = 0) ∨ (k = 1 ∧ kn = 1) ∨ (k = 2 ∧ kn = 2)) (E : En) (B br bm be : Nat) (vb vp v0 v1 v2 : Value) (m : ByteArray) (w : World) (h : Reg B w br bm be E vb vp v0 v1 v2 m) :
    Calls Tryz.prog 75 #[.pointer (some ⟨br, 0, none⟩), .string b1B, .int .i64 k] w (Ret w (.tuple #[.agg (ogC (E.og kn) (vOf v0 v1 v2 kn)), .bool true])) := by
  have hse : ∀ W : World, Mp.look false (Mp.mget [(b1B, .pointer (some ⟨be, 0, none⟩))] b1B) (.pointer none) = .pointer (some ⟨be, 0, none⟩) := fun _ => rfl
  obtain ⟨w0, hw0⟩ : ∃ W, W = w.alloc (.cells #[.int .i64 0, .string ⟨#[]⟩, .slice none 0 0] 149) := ⟨_, rfl⟩
  have ew := hw0.symm
  have HB0 : Hid (Below w.heap.size w w0) := Lib.hid (by rw [hw0]; exact one_below w _)
  have HX0 : Hid (w0.heap[w.heap.size]? = some (.cells #[.int .i64 0, .string ⟨#[]⟩, .slice none 0 0] 149 (0, 0))) := Lib.hid (by rw [hw0]; exact heap_alloc_new w _)
  have HH0 := Lib.hid (h.below HB0.out)
  have c1 : w0.cell? ⟨br, 1, none⟩ = some (.map (some bm)) := cell_blk HH0.out.rg.rb 1
  simp only [ogC]
  clear h hw0
  obtain ⟨rfl, rfl⟩ | ⟨rfl, rfl⟩ | ⟨rfl, rfl⟩ := hk
  · have e1 : E.og 0 = E.o0 := rfl
    have e2 : vOf v0 v1 v2 0 = v0 := rfl
    rw [e1, e2]
    obtain ⟨x0, x1, x2⟩ : w0.cell? ⟨be, 10, none⟩ = some (.int .i64 E.o0.st) ∧ w0.cell? ⟨be, 11, none⟩ = some (.string E.o0.hd) ∧ w0.cell? ⟨be, 12, none⟩ = some v0 := ⟨cell_blk HH0.out.box 10, cell_blk HH0.out.box 11, cell_blk HH0.out.box 12⟩
    obtain ⟨⟨a0, n0, c0, s0⟩, ⟨a1, n1, c1', s1⟩, ⟨a2, n2, c2, s2⟩⟩ := En.sl HH0.out.en
    rw [s0] at x2 ⊢
    clear s0 s1 s2
    generalize E.o0.st = y0 at *
    generalize E.o0.hd = y1 at *
    go_enter Tryz.func75, Tryz.ntmps75
    go_wp2_with (first
      | ((with_reducible refine Mp.wpl_lookup (b := bm) (l := [(b1B, .pointer (some ⟨be, 0, none⟩))]) (key := b1B) ?_ ?_ ?_ Tryz.underlying133 Tryz.underlying9 (zeroEn _) HH0.out.rg.mp ?_); rfl; rfl; rfl; rw [hse w0])
      | (refine wpList_store_row (P := Tryz.prog) rfl 149 (.tmp 6) (.tmp 31) rfl w.heap.size #[.int .i64 y0, .string y1, .slice a0 n0 c0] rfl rfl _ _ HX0.out (by kernel_rfl) rfl (by simp [Value.oneCell']) ?_)
      | fail)
    ((try simp only [Exit.inBlock, Exit.then]); refine bodyPost_ret (results_rt orgRRes _ _ w.heap.size _ _ (0, 0) _ (.bool true) rfl rfl (setRow_at HX0.out) Tryz.underlying149 rfl (by kernel_rfl)) rfl ?_)
    exact ⟨rfl, below_setRow HB0.out (Nat.le_refl _) _⟩
  · have e1 : E.og 1 = E.o1 := rfl
    have e2 : vOf v0 v1 v2 1 = v1 := rfl
    rw [e1, e2]
    obtain ⟨x0, x1, x2⟩ : w0.cell? ⟨be, 13, none⟩ = some (.int .i64 E.o1.st) ∧ w0.cell? ⟨be, 14, none⟩ = some (.string E.o1.hd) ∧ w0.cell? ⟨be, 15, none⟩ = some v1 := ⟨cell_blk HH0.out.box 13, cell_blk HH0.out.box 14, cell_blk HH0.out.box 15⟩
    obtain ⟨⟨a0, n0, c0, s0⟩, ⟨a1, n1, c1', s1⟩, ⟨a2, n2, c2, s2⟩⟩ := En.sl HH0.out.en
    rw [s1] at x2 ⊢
    clear s0 s1 s2
    generalize E.o1.st = y0 at *
    generalize E.o1.hd = y1 at *
    go_enter Tryz.func75, Tryz.ntmps75
    go_wp2_with (first
      | ((with_reducible refine Mp.wpl_lookup (b := bm) (l := [(b1B, .pointer (some ⟨be, 0, none⟩))]) (key := b1B) ?_ ?_ ?_ Tryz.underlying133 Tryz.underlying9 (zeroEn _) HH0.out.rg.mp ?_); rfl; rfl; rfl; rw [hse w0])
      | (refine wpList_store_row (P := Tryz.prog) rfl 149 (.tmp 6) (.tmp 31) rfl w.heap.size #[.int .i64 y0, .string y1, .slice a1 n1 c1'] rfl rfl _ _ HX0.out (by kernel_rfl) rfl (by simp [Value.oneCell']) ?_)
      | fail)
    ((try simp only [Exit.inBlock, Exit.then]); refine bodyPost_ret (results_rt orgRRes _ _ w.heap.size _ _ (0, 0) _ (.bool true) rfl rfl (setRow_at HX0.out) Tryz.underlying149 rfl (by kernel_rfl)) rfl ?_)
    exact ⟨rfl, below_setRow HB0.out (Nat.le_refl _) _⟩
  · have e1 : E.og 2 = E.o2 := rfl
    have e2 : vOf v0 v1 v2 2 = v2 := rfl
    rw [e1, e2]
    obtain ⟨x0, x1, x2⟩ : w0.cell? ⟨be, 16, none⟩ = some (.int .i64 E.o2.st) ∧ w0.cell? ⟨be, 17, none⟩ = some (.string E.o2.hd) ∧ w0.cell? ⟨be, 18, none⟩ = some v2 := ⟨cell_blk HH0.out.box 16, cell_blk HH0.out.box 17, cell_blk HH0.out.box 18⟩
    obtain ⟨⟨a0, n0, c0, s0⟩, ⟨a1, n1, c1', s1⟩, ⟨a2, n2, c2, s2⟩⟩ := En.sl HH0.out.en
    rw [s2] at x2 ⊢
    clear s0 s1 s2
    generalize E.o2.st = y0 at *
    generalize E.o2.hd = y1 at *
    go_enter Tryz.func75, Tryz.ntmps75
    go_wp2_with (first
      | ((with_reducible refine Mp.wpl_lookup (b := bm) (l := [(b1B, .pointer (some ⟨be, 0, none⟩))]) (key := b1B) ?_ ?_ ?_ Tryz.underlying133 Tryz.underlying9 (zeroEn _) HH0.out.rg.mp ?_); rfl; rfl; rfl; rw [hse w0])
      | (refine wpList_store_row (P := Tryz.prog) rfl 149 (.tmp 6) (.tmp 31) rfl w.heap.size #[.int .i64 y0, .string y1, .slice a2 n2 c2] rfl rfl _ _ HX0.out (by kernel_rfl) rfl (by simp [Value.oneCell']) ?_)
      | fail)
    ((try simp only [Exit.inBlock, Exit.then]); refine bodyPost_ret (results_rt orgRRes _ _ w.heap.size _ _ (0, 0) _ (.bool true) rfl rfl (setRow_at HX0.out) Tryz.underlying149 rfl (by kernel_rfl)) rfl ?_)
    exact ⟨rfl, below_setRow HB0.out (Nat.le_refl _) _⟩
end Go.Proofs.YtbigoifpfkdkjaaGreatDoor.Sc
namespace Go.Proofs.YtbigoifpfkdkjaaGreatDoor.Sc
open Go Go.RowKit Go.ChangeShapes Go.WideShapes Go.ChangeAt
set_option maxRecDepth 100000

set_option maxHeartbeats 4000000 in
theorem chain_any (k : Int) (kn : Nat) (hk : (k = 0 ∧ kn = 0) ∨ (k = 1 ∧ kn = 1) ∨ (k = 2 ∧ kn = 2)) (E : En) (B br bm be : Nat) (vb vp v0 v1 v2 : Value) (m : ByteArray) (w : World) (h : Reg B w br bm be E vb vp v0 v1 v2 m) (hl : (E.og kn).ch.length ≤ 1000000) :
    Calls Tryz.prog 23 #[.pointer (some ⟨br, 0, none⟩), .string b1B, .int .i64 k] w (RetRow w 75 4 (E.og kn).ch.length (edCells (E.og kn).ch)) := by
  have HO := Lib.hid (originalR_any k kn hk E B br bm be vb vp v0 v1 v2 m w h)
  have hrow := h.en.row kn
  obtain ⟨a, c, hs⟩ : ∃ a c, vOf v0 v1 v2 kn = .slice a (E.og kn).ch.length c := by simpa using hrow.shape
  rw [hs] at hrow HO
  have HCL := Lib.hid (fun W (hb : Below w.heap.size w W) => cloneEd_any (E.og kn).ch _ W (hrow.below hb (Nat.le_refl _)) hl)
  simp only [ogC] at HO
  clear h hs hl hrow hk
  generalize (E.og kn).st = y0 at *
  generalize (E.og kn).hd = y1 at *
  generalize (E.og kn).ch = l at *
  generalize l.length = n at *
  go_enter Tryz.func23, Tryz.ntmps23
  go_wp2_with (first
    | ((with_reducible refine HO.out.mono ?_); rintro en w1 ⟨rfl, hb1⟩; obtain ⟨w2, hw2⟩ : ∃ x, x = w1.alloc (.cells #[.int .i64 y0, .string y1, .slice a n c] 149 (0, 0)) := ⟨_, rfl⟩; have HW2 := Lib.hid hw2; have c2 : w2.cell? ⟨w1.heap.size, 2, none⟩ = some (.slice a n c) := cell_blk (hw2 ▸ heap_alloc_new w1 _) 2; have HB2 : Hid (Below w.heap.size w w2) := Lib.hid (below_then hb1 (hw2 ▸ one_below w1 _)); clear hw2 hb1)
    | (refine wpList_store_row (P := Tryz.prog) rfl 149 (.tmp 7) (.tmp 14) rfl w1.heap.size #[.int .i64 y0, .string y1, .slice a n c] rfl rfl _ _ (heap_alloc_new w1 _) (by kernel_rfl) rfl (by simp [Value.oneCell']) ?_; rw [setRow_new, ← HW2.out])
    | ((with_reducible refine (HCL.out w2 HB2.out).mono ?_); rintro en w3 ⟨v3, rfl, ho3, hb3⟩; have HO3 := Lib.hid ho3; have HB3 := Lib.hid hb3; clear ho3 hb3)
    | fail)
  go_ret
  exact ⟨v3, rfl, ownsRow_base HO3.out HB2.out.size, below_then HB2.out HB3.out⟩
end Go.Proofs.YtbigoifpfkdkjaaGreatDoor.Sc
namespace Go.Proofs.YtbigoifpfkdkjaaGreatDoor.Sc
open Go Go.RowKit Go.ChangeShapes Go.WideShapes Go.ChangeAt
set_option maxRecDepth 100000

/-- A register without bills. -/
structure Rg0 (w : World) (br bm : Nat) (c : ByteArray) : Prop where
  rb : w.heap[br]? = some (.cells #[.string c, .map (some bm)] 135 (0, 0))
  mp : Mp.MapAt w bm []
theorem Rg0.below {w w' : World} {br bm : Nat} {c : ByteArray} (h : Rg0 w br bm c) (hb : Below w.heap.size w w') : Rg0 w' br bm c := ⟨blk hb (lt_blk h.rb) h.rb, h.mp.same (hb.block _ h.mp.lt)⟩
theorem newR_any (c : ByteArray) (w : World) : Calls Tryz.prog 14 #[.string c] w (fun e w' => ∃ br bm, e = .returned (.pointer (some ⟨br, 0, none⟩)) ∧ Rg0 w' br bm c ∧ w.heap.size ≤ br ∧ w.heap.size ≤ bm ∧ bm ≠ br ∧ Below w.heap.size w w') := by
  have tm : ∀ W : World, (Instr.makeMap 133 none).run Tryz.prog W = .ok (.map (some W.heap.size)) (W.alloc (.map #[] 0)) := fun W => by kernel_rfl
  go_enter Tryz.func14, Tryz.ntmps14
  go_wp2
  obtain ⟨w1, hw1⟩ : ∃ x, x = (w.alloc (.map #[] 0)).alloc (.cells #[.string c, .map (some w.heap.size)] 135) := ⟨_, rfl⟩
  rw [← hw1]
  have HW := Lib.hid hw1
  have HB1 : Hid (Below w.heap.size w w1) := Lib.hid (hw1 ▸ (one_below _ _).alloc (by simp) _)
  clear hw1 tm
  go_ret
  refine ⟨w.heap.size + 1, w.heap.size, rfl, ⟨?_, (Mp.MapAt.made w).same ?_⟩, by omega, Nat.le_refl _, by omega, HB1.out⟩
  · rw [HW.out]
    have := heap_alloc_new (w.alloc (.map #[] 0)) (.cells #[.string c, .map (some w.heap.size)] 135)
    simpa using this
  · rw [HW.out]
    exact (one_below (w.alloc (.map #[] 0)) _).block _ (by simp)
end Go.Proofs.YtbigoifpfkdkjaaGreatDoor.Sc
namespace Go.Proofs.YtbigoifpfkdkjaaGreatDoor.Sc
open Go Go.RowKit Go.ChangeShapes Go.WideShapes Go.ChangeAt
set_option maxRecDepth 100000

theorem infoAo : (Tryz.prog.info? 69).map (fun i => (i.zero, i.size, i.bytes)) = some (some (.agg #[.string ⟨#[]⟩, .int .i64 0, .int .i64 0, .string ⟨#[]⟩]), 4, 48) := by kernel_rfl
def aoC (k : Int) (o : Og) : List Value := [.string b1B, .int .i64 k, .int .i64 o.st, .string o.hd]
theorem ao_one (k : Int) (s t : ByteArray) (x : Int) : ∀ u ∈ (#[.string s, .int .i64 k, .int .i64 x, .string t] : Array Value).toList, u.oneCell' = true := by
  intro u hu
  simp only [List.mem_cons, List.not_mem_nil, or_false] at hu
  rcases hu with rfl | rfl | rfl | rfl <;> rfl
def aoN (E : En) (k : Nat) : List Value := if k = 0 then [] else if k = 1 then aoC 0 E.o0 else if k = 2 then aoC 0 E.o0 ++ aoC 1 E.o1 else aoC 0 E.o0 ++ aoC 1 E.o1 ++ aoC 2 E.o2
set_option maxHeartbeats 4000000 in
theorem origs_any (E : En) (B br bm be : Nat) (vb vp v0 v1 v2 : Value) (m : ByteArray) (w : World) (h : Reg B w br bm be E vb vp v0 v1 v2 m) :
    Calls Tryz.prog 22 #[.pointer (some ⟨br, 0, none⟩), .string b1B] w (RetRow w 69 4 3 (aoN E 3)) := by
  obtain ⟨i0, hi, hz, hsz, hby⟩ := info_parts infoAo
  have HI := Lib.hid (And.intro hi (And.intro hz (And.intro hsz hby)))
  have hse : ∀ W : World, Mp.look false (Mp.mget [(b1B, .pointer (some ⟨be, 0, none⟩))] b1B) (.pointer none) = .pointer (some ⟨be, 0, none⟩) := fun _ => rfl
  have HH := Lib.hid h
  have c1 : w.cell? ⟨br, 1, none⟩ = some (.map (some bm)) := cell_blk h.rg.rb 1
  obtain ⟨⟨a0, n0, c0, s0⟩, ⟨a1, n1, c1', s1⟩, ⟨a2, n2, c2, s2⟩⟩ := En.sl h.en
  subst s0 s1 s2
  have hx := h.box
  have d10 : w.cell? ⟨be, 10, none⟩ = some (.int .i64 E.o0.st) := cell_blk hx 10
  have d11 : w.cell? ⟨be, 11, none⟩ = some (.string E.o0.hd) := cell_blk hx 11
  have d12 : w.cell? ⟨be, 12, none⟩ = some (.slice a0 n0 c0) := cell_blk hx 12
  have d13 : w.cell? ⟨be, 13, none⟩ = some (.int .i64 E.o1.st) := cell_blk hx 13
  have d14 : w.cell? ⟨be, 14, none⟩ = some (.string E.o1.hd) := cell_blk hx 14
  have d15 : w.cell? ⟨be, 15, none⟩ = some (.slice a1 n1 c1') := cell_blk hx 15
  have d16 : w.cell? ⟨be, 16, none⟩ = some (.int .i64 E.o2.st) := cell_blk hx 16
  have d17 : w.cell? ⟨be, 17, none⟩ = some (.string E.o2.hd) := cell_blk hx 17
  have d18 : w.cell? ⟨be, 18, none⟩ = some (.slice a2 n2 c2) := cell_blk hx 18
  have HC := Lib.hid (fun W (hb : Below w.heap.size w W) => (⟨(hb.cell (lt_blk hx)).trans d10, (hb.cell (lt_blk hx)).trans d11, (hb.cell (lt_blk hx)).trans d12, (hb.cell (lt_blk hx)).trans d13, (hb.cell (lt_blk hx)).trans d14, (hb.cell (lt_blk hx)).trans d15, (hb.cell (lt_blk hx)).trans d16, (hb.cell (lt_blk hx)).trans d17, (hb.cell (lt_blk hx)).trans d18⟩ :
    W.cell? ⟨be, 10, none⟩ = some (.int .i64 E.o0.st) ∧ W.cell? ⟨be, 11, none⟩ = some (.string E.o0.hd) ∧ W.cell? ⟨be, 12, none⟩ = some (.slice a0 n0 c0) ∧ W.cell? ⟨be, 13, none⟩ = some (.int .i64 E.o1.st) ∧ W.cell? ⟨be, 14, none⟩ = some (.string E.o1.hd) ∧ W.cell? ⟨be, 15, none⟩ = some (.slice a1 n1 c1') ∧ W.cell? ⟨be, 16, none⟩ = some (.int .i64 E.o2.st) ∧ W.cell? ⟨be, 17, none⟩ = some (.string E.o2.hd) ∧ W.cell? ⟨be, 18, none⟩ = some (.slice a2 n2 c2)))
  have ei := Lib.hid (fun W => run_og W (.int .i64 E.o0.st) (.string E.o0.hd) (.slice a0 n0 c0) (.int .i64 E.o1.st) (.string E.o1.hd) (.slice a1 n1 c1') (.int .i64 E.o2.st) (.string E.o2.hd) (.slice a2 n2 c2))
  clear h hx hi hz hsz hby d10 d11 d12 d13 d14 d15 d16 d17 d18
  go_enter Tryz.func22, Tryz.ntmps22
  go_wp2_with (first
    | ((with_reducible refine Mp.wpl_lookup (b := bm) (l := [(b1B, .pointer (some ⟨be, 0, none⟩))]) (key := b1B) ?_ ?_ ?_ Tryz.underlying133 Tryz.underlying9 (zeroEn _) HH.out.rg.mp ?_); rfl; rfl; rfl; rw [hse w])
    | (refine wpList_make_own w rfl (.const (.int .i64 0)) (.const (.int .i64 3)) 66 rfl w.heap.size 69 i0 _ 4 Tryz.underlying66 HI.out.1 HI.out.2.1 HI.out.2.2.1 .i64 .i64 3 3 rfl rfl rfl (by rw [HI.out.2.2.2]; decide) (by simp [maxLen]) (Nat.le_refl _) ?_; intro w1 hown1 hgrow1; have hb1 : Below w.heap.size w w1 := (Below.refl _ _).grown hgrow1 (Nat.le_refl _) (fun k hk => by cases hk); have HO1 := Lib.hid hown1; have HB1 := Lib.hid hb1; clear hown1 hgrow1 hb1 c1; obtain ⟨d10, d11, d12, d13, d14, d15, d16, d17, d18⟩ := HC.out w1 HB1.out)
    | fail)
  go_loopw [6, 7, 8, 22] (fun v _ _ i wr => ∃ k : Nat, k ≤ 3 ∧ i = .int .i64 k ∧ wr.ownsRow w.heap.size 69 4 v k (aoN E k) ∧ Below w.heap.size w wr) (fun _ _ _ i _ => 3 - (intOf i).toNat)
  case atStart => exact ⟨0, by decide, rfl, HO1.out, HB1.out⟩
  case round =>
    obtain ⟨k, hk, rfl, hown, hbel⟩ := hrel
    have HBEL := Lib.hid hbel
    have HOW := Lib.hid hown
    have HL : Hid (∀ n W, n ≤ 3 → Below w.heap.size w W → n + 1 ≤ maxLen ∧ (n + 1) * 48 ≤ 140737488355328 ∧ w.heap.size ≤ W.heap.size) := Lib.hid (fun n W hn hb => by have := hb.size; simp only [maxLen]; omega)
    clear hown hbel d10 d11 d12 d13 d14 d15 d16 d17 d18
    obtain rfl | rfl | rfl | rfl : k = 0 ∨ k = 1 ∨ k = 2 ∨ k = 3 := by omega
    · have ei0 : ∀ W : World, (Instr.index 150 (.agg #[.int .i64 E.o0.st, .string E.o0.hd, .slice a0 n0 c0, .int .i64 E.o1.st, .string E.o1.hd, .slice a1 n1 c1', .int .i64 E.o2.st, .string E.o2.hd, .slice a2 n2 c2]) (.int .i64 0)).run Tryz.prog W = .ok (.agg #[.int .i64 E.o0.st, .string E.o0.hd, .slice a0 n0 c0]) W := fun W => ei.out W 0 (by decide)
      obtain ⟨wa, hwa⟩ : ∃ x, x = wr.alloc (.cells #[.int .i64 E.o0.st, .string E.o0.hd, .slice a0 n0 c0] 149) := ⟨_, rfl⟩
      have HBW : Hid (Below wr.heap.size wr wa) := Lib.hid (hwa ▸ one_below wr _)
      have c20 : wa.cell? ⟨wr.heap.size, 0, none⟩ = some (.int .i64 E.o0.st) := cell_blk (hwa ▸ heap_alloc_new wr _) 0
      have c21 : wa.cell? ⟨wr.heap.size, 1, none⟩ = some (.string E.o0.hd) := cell_blk (hwa ▸ heap_alloc_new wr _) 1
      have ew := hwa.symm
      clear hwa
      have HBA := Lib.hid (HBEL.out.trans (HBW.out.mono HBEL.out.size))
      have HOA := Lib.hid (ownsRow_below HOW.out HBW.out)
      have HL1 := Lib.hid (HL.out 0 _ (by decide) HBA.out)
      go_wp2_with (first
        | (((with_reducible refine Any.wpl_push ?_ ?_ ?_ Tryz.underlying66 HI.out.1 HI.out.2.1 HI.out.2.2.1 HI.out.2.2.2 ?_ (by decide) ?_ ((ao_one 0 b1B E.o0.hd E.o0.st)) (HOA.out) HL1.out.1 HL1.out.2.1 HL1.out.2.2 ?_); rfl; rfl; rfl; rfl; rfl; intro v4 w4 hown4 hgrow4 hwho4); have HO4 := Lib.hid hown4; have HB4 := Lib.hid (HBA.out.grown hgrow4 HBA.out.size (fun k hk => (HOA.out.lt k hk).1)); clear hown4 hgrow4 hwho4)
        | fail)
      go_roundw
      case rel => exact ⟨1, by decide, rfl, HO4.out, HB4.out⟩
      case measure => simp [intOf]
    · have ei0 : ∀ W : World, (Instr.index 150 (.agg #[.int .i64 E.o0.st, .string E.o0.hd, .slice a0 n0 c0, .int .i64 E.o1.st, .string E.o1.hd, .slice a1 n1 c1', .int .i64 E.o2.st, .string E.o2.hd, .slice a2 n2 c2]) (.int .i64 1)).run Tryz.prog W = .ok (.agg #[.int .i64 E.o1.st, .string E.o1.hd, .slice a1 n1 c1']) W := fun W => ei.out W 1 (by decide)
      obtain ⟨wa, hwa⟩ : ∃ x, x = wr.alloc (.cells #[.int .i64 E.o1.st, .string E.o1.hd, .slice a1 n1 c1'] 149) := ⟨_, rfl⟩
      have HBW : Hid (Below wr.heap.size wr wa) := Lib.hid (hwa ▸ one_below wr _)
      have c20 : wa.cell? ⟨wr.heap.size, 0, none⟩ = some (.int .i64 E.o1.st) := cell_blk (hwa ▸ heap_alloc_new wr _) 0
      have c21 : wa.cell? ⟨wr.heap.size, 1, none⟩ = some (.string E.o1.hd) := cell_blk (hwa ▸ heap_alloc_new wr _) 1
      have ew := hwa.symm
      clear hwa
      have HBA := Lib.hid (HBEL.out.trans (HBW.out.mono HBEL.out.size))
      have HOA := Lib.hid (ownsRow_below HOW.out HBW.out)
      have HL1 := Lib.hid (HL.out 1 _ (by decide) HBA.out)
      go_wp2_with (first
        | (((with_reducible refine Any.wpl_push ?_ ?_ ?_ Tryz.underlying66 HI.out.1 HI.out.2.1 HI.out.2.2.1 HI.out.2.2.2 ?_ (by decide) ?_ ((ao_one 1 b1B E.o1.hd E.o1.st)) (HOA.out) HL1.out.1 HL1.out.2.1 HL1.out.2.2 ?_); rfl; rfl; rfl; rfl; rfl; intro v4 w4 hown4 hgrow4 hwho4); have HO4 := Lib.hid hown4; have HB4 := Lib.hid (HBA.out.grown hgrow4 HBA.out.size (fun k hk => (HOA.out.lt k hk).1)); clear hown4 hgrow4 hwho4)
        | fail)
      go_roundw
      case rel => exact ⟨2, by decide, rfl, HO4.out, HB4.out⟩
      case measure => simp [intOf]
    · have ei0 : ∀ W : World, (Instr.index 150 (.agg #[.int .i64 E.o0.st, .string E.o0.hd, .slice a0 n0 c0, .int .i64 E.o1.st, .string E.o1.hd, .slice a1 n1 c1', .int .i64 E.o2.st, .string E.o2.hd, .slice a2 n2 c2]) (.int .i64 2)).run Tryz.prog W = .ok (.agg #[.int .i64 E.o2.st, .string E.o2.hd, .slice a2 n2 c2]) W := fun W => ei.out W 2 (by decide)
      obtain ⟨wa, hwa⟩ : ∃ x, x = wr.alloc (.cells #[.int .i64 E.o2.st, .string E.o2.hd, .slice a2 n2 c2] 149) := ⟨_, rfl⟩
      have HBW : Hid (Below wr.heap.size wr wa) := Lib.hid (hwa ▸ one_below wr _)
      have c20 : wa.cell? ⟨wr.heap.size, 0, none⟩ = some (.int .i64 E.o2.st) := cell_blk (hwa ▸ heap_alloc_new wr _) 0
      have c21 : wa.cell? ⟨wr.heap.size, 1, none⟩ = some (.string E.o2.hd) := cell_blk (hwa ▸ heap_alloc_new wr _) 1
      have ew := hwa.symm
      clear hwa
      have HBA := Lib.hid (HBEL.out.trans (HBW.out.mono HBEL.out.size))
      have HOA := Lib.hid (ownsRow_below HOW.out HBW.out)
      have HL1 := Lib.hid (HL.out 2 _ (by decide) HBA.out)
      go_wp2_with (first
        | (((with_reducible refine Any.wpl_push ?_ ?_ ?_ Tryz.underlying66 HI.out.1 HI.out.2.1 HI.out.2.2.1 HI.out.2.2.2 ?_ (by decide) ?_ ((ao_one 2 b1B E.o2.hd E.o2.st)) (HOA.out) HL1.out.1 HL1.out.2.1 HL1.out.2.2 ?_); rfl; rfl; rfl; rfl; rfl; intro v4 w4 hown4 hgrow4 hwho4); have HO4 := Lib.hid hown4; have HB4 := Lib.hid (HBA.out.grown hgrow4 HBA.out.size (fun k hk => (HOA.out.lt k hk).1)); clear hown4 hgrow4 hwho4)
        | fail)
      go_roundw
      case rel => exact ⟨3, by decide, rfl, HO4.out, HB4.out⟩
      case measure => simp [intOf]
    · go_wp2_with fail
      go_ret
      exact ⟨_, rfl, HOW.out, HBEL.out⟩
end Go.Proofs.YtbigoifpfkdkjaaGreatDoor.Sc
namespace Go.Proofs.YtbigoifpfkdkjaaGreatDoor.Sc
open Go Go.RowKit Go.ChangeShapes Go.WideShapes Go.ChangeAt
set_option maxRecDepth 100000

def sHd : ByteArray := ⟨#[115]⟩
theorem sHd_ok : nameOk sHd = true := by decide +kernel
theorem nmB_ok (b : Int) : nameOk (nmB b) = true := by
  unfold nmB
  split
  · decide +kernel
  split
  · decide +kernel
  · decide +kernel
/-- An original is right. -/
structure OgOk (o : Og) (i : Nat) : Prop where
  ch : ChR sHd o.ch
  hd : hlT sHd o.ch = o.hd
  nm : nameOk o.hd = true
  len : o.ch.length ≤ i
def EnOk (E : En) (i : Nat) : Prop := ∀ k, k < 3 → OgOk (E.og k) i
theorem EnOk.mono {E : En} {i j : Nat} (h : EnOk E i) (hij : i ≤ j) : EnOk E j := fun k hk => ⟨(h k hk).ch, (h k hk).hd, (h k hk).nm, Nat.le_trans (h k hk).len hij⟩
theorem EnOk.same {E E' : En} {i : Nat} (h : EnOk E i) (hs : ∀ k, (E'.og k).ch = (E.og k).ch ∧ (E'.og k).hd = (E.og k).hd) : EnOk E' i := fun k hk => by
  obtain ⟨h1, h2⟩ := hs k
  have h3 := h k hk
  exact ⟨by rw [h1]; exact h3.ch, by rw [h1, h2]; exact h3.hd, by rw [h2]; exact h3.nm, by rw [h1]; exact h3.len⟩
theorem og_end (E : En) (s : Int) (n : Nat) (j : Nat) : ((endE E s n).og j).ch = (E.og j).ch ∧ ((endE E s n).og j).hd = (E.og j).hd := by
  unfold endE En.og
  repeat' split
  all_goals exact ⟨rfl, rfl⟩
theorem EnOk.setSt {E : En} {i : Nat} (h : EnOk E i) (k : Nat) (s : Int) : EnOk (E.setSt k s) i := h.same fun j => og_set E k s j
theorem EnOk.ended {E : En} {i : Nat} (h : EnOk E i) (s : Int) (n : Nat) : EnOk (endE E s n) i := h.same fun j => og_end E s n j
def hitB (idx : Int) (k : Nat) : Bool := idx == -1 || idx == (k : Int)
def upO (o : Og) (g : Ed) : Og := ⟨o.st, g.dst, o.ch ++ [g]⟩
/-- A bill of which the first n originals that an index tells are given on. -/
def endN (E : En) (idx : Int) (g : Ed) (n : Nat) : En := ⟨E.st, if 0 < n ∧ hitB idx 0 = true then upO E.o0 g else E.o0, if 1 < n ∧ hitB idx 1 = true then upO E.o1 g else E.o1, if 2 < n ∧ hitB idx 2 = true then upO E.o2 g else E.o2⟩
theorem endN_zero (E : En) (idx : Int) (g : Ed) : endN E idx g 0 = E := by simp [endN]
theorem endN_og (E : En) (idx : Int) (g : Ed) (k : Nat) (hk : k < 3) : (endN E idx g 3).og k = if hitB idx k = true then upO (E.og k) g else E.og k := by
  obtain rfl | rfl | rfl : k = 0 ∨ k = 1 ∨ k = 2 := by omega
  all_goals simp [endN, En.og]
theorem some_false {idx : Int} {f : Nat → Bool} (h : someB idx f = false) {k : Nat} (hk : k < 3) (hi : hitB idx k = true) : f k = false := by
  cases hf : f k
  · rfl
  exfalso
  have : someB idx f = true := by
    unfold someB
    obtain rfl | rfl | rfl : k = 0 ∨ k = 1 ∨ k = 2 := by omega
    · have hi' : (idx == -1 || idx == 0) = true := hi
      simp [hi', hf]
    · have hi' : (idx == -1 || idx == 1) = true := hi
      simp [hi', hf]
    · have hi' : (idx == -1 || idx == 2) = true := hi
      simp [hi', hf]
  rw [this] at h
  cases h
theorem ask_zero {A : Ac} {E : En} (h : askC A E = 0) : ∀ i, i < 6 → askIf A E i = false := by
  have h' : (if askIf A E 0 then (4 : Int) else if askIf A E 1 then 3 else if askIf A E 2 then 1 else if askIf A E 3 then 9 else if askIf A E 4 then 8 else if askIf A E 5 then 6 else 0) = 0 := h
  intro i hi
  obtain rfl | rfl | rfl | rfl | rfl | rfl : i = 0 ∨ i = 1 ∨ i = 2 ∨ i = 3 ∨ i = 4 ∨ i = 5 := by omega
  all_goals
    cases h0 : askIf A E 0 <;> cases h1 : askIf A E 1 <;> cases h2 : askIf A E 2 <;> cases h3 : askIf A E 3 <;> cases h4 : askIf A E 4 <;> cases h5 : askIf A E 5 <;> simp_all
def wrongE (b t : ByteArray) : Bool := !nameOk t || (t.toList == b.toList)
def endA (idx : Int) (b t : ByteArray) (d : Int) : Ac := ⟨b1B, idx, -1, b, 0, d, true, wrongE b t⟩
/-- What an endorsement finds that is not refused. -/
structure EndF (E : En) (idx : Int) (b t : ByteArray) (d : Int) : Prop where
  nm : nameOk t = true
  ne : t ≠ b
  dy : dayOk d = true
  hd : ∀ k, k < 3 → hitB idx k = true → (E.og k).hd = b
  day : ∀ k, k < 3 → hitB idx k = true → lastD (E.og k) 0 ≤ d
theorem end_found {E : En} {idx : Int} {b t : ByteArray} {d : Int} (h : askC (endA idx b t d) E = 0) : EndF E idx b t d := by
  have h0 := ask_zero h
  have h2 : (wrongE b t || (true && !dayOk d)) = false := h0 2 (by decide)
  have h4 : someB idx (fun k => !((E.og k).hd.toList == b.toList)) = false := h0 4 (by decide)
  have h5 : (true && someB idx (fun k => decide (d < lastD (E.og k) 0))) = false := h0 5 (by decide)
  rw [Bool.true_and] at h5
  simp only [Bool.or_eq_false_iff] at h2
  obtain ⟨h2, h6⟩ := h2
  rw [Bool.true_and, Bool.not_eq_false'] at h6
  simp only [wrongE, Bool.or_eq_false_iff, Bool.not_eq_false'] at h2
  refine ⟨h2.1, fun e => ?_, h6, fun k hk hi => ?_, fun k hk hi => ?_⟩
  · have h3 := h2.2
    rw [e] at h3
    simp at h3
  · have h3 := some_false h4 hk hi
    simp only [Bool.not_eq_false'] at h3
    rw [str_beq] at h3
    exact of_decide_eq_true h3
  · have h3 := some_false h5 hk hi
    have := of_decide_eq_false h3
    omega
theorem endorsed_ok {E : En} {i : Nat} (h : EnOk E i) (hi : i ≤ 1000) {idx : Int} {b t : ByteArray} (hb : nameOk b = true) (hf : EndF E idx b t (i : Int)) : EnOk (endN E idx ⟨b, t, 0, i⟩ 3) (i + 1) := by
  intro k hk
  rw [endN_og E idx _ k hk]
  have h3 := h k hk
  by_cases hh : hitB idx k = true
  · rw [if_pos hh]
    refine ⟨h3.ch.snoc ⟨?_, ?_, fun x hx => ?_⟩ rfl, by rw [show (upO (E.og k) ⟨b, t, 0, i⟩).ch = (E.og k).ch ++ [⟨b, t, 0, i⟩] from rfl, hlT_snoc]; rfl, hf.nm, ?_⟩
    · have e1 : decide ((0 : Int) ≤ (i : Int)) = true := decide_eq_true (by omega)
      have e2 : decide ((i : Int) ≤ 1048576) = true := decide_eq_true (by omega)
      have e3 : (t.toList == b.toList) = false := by rw [str_beq]; exact decide_eq_false hf.ne
      simp only [mayE, hb, e1, e2, e3, hf.nm, Bool.not_false, Bool.and_self]
    · rw [h3.hd, hf.hd k hk hh]
    · have h4 := hf.day k hk hh
      rw [lastD, hx] at h4
      exact h4
    · rw [show (upO (E.og k) ⟨b, t, 0, i⟩).ch = (E.og k).ch ++ [⟨b, t, 0, i⟩] from rfl, List.length_append]
      have := h3.len
      simp; omega
  · rw [if_neg hh]
    exact ⟨h3.ch, h3.hd, h3.nm, Nat.le_succ_of_le h3.len⟩
/-- A bill as it is issued. -/
def enNew : En := ⟨0, ⟨0, sHd, []⟩, ⟨0, sHd, []⟩, ⟨0, sHd, []⟩⟩
theorem enNew_ok : EnOk enNew 0 := by
  intro k hk
  obtain rfl | rfl | rfl : k = 0 ∨ k = 1 ∨ k = 2 := by omega
  all_goals exact ⟨chR_nil _, rfl, sHd_ok, Nat.le_refl _⟩
/-- The endorsement of who does not hold it. -/
theorem thief_may {who : ByteArray} {n : Nat} (hw : nameOk who = true) (hn : n ≤ 24) (h5 : who ≠ ⟨#[102, 101, 110, 99, 101]⟩) : mayE ⟨who, ⟨#[102, 101, 110, 99, 101]⟩, 0, n⟩ = true := by
  have e1 : decide ((0 : Int) ≤ (n : Int)) = true := decide_eq_true (by omega)
  have e2 : decide ((n : Int) ≤ 1048576) = true := decide_eq_true (by omega)
  have e3 : ((⟨#[102, 101, 110, 99, 101]⟩ : ByteArray).toList == who.toList) = false := by rw [str_beq]; exact decide_eq_false (fun e => h5 e.symm)
  have e4 : nameOk ⟨#[102, 101, 110, 99, 101]⟩ = true := by decide +kernel
  simp only [mayE, hw, e1, e2, e3, e4, Bool.not_false, Bool.and_self]
theorem nmB_fence (b : Int) : nmB b ≠ ⟨#[102, 101, 110, 99, 101]⟩ := by
  unfold nmB
  split
  · decide
  split
  · decide
  · decide
end Go.Proofs.YtbigoifpfkdkjaaGreatDoor.Sc
