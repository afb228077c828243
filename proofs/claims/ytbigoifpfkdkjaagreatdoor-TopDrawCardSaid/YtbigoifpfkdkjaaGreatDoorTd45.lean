/- The credit that a fixed deal asks for. -/
import Derived.Test.YtbigoifpfkdkjaaGreatDoorTd44
import Derived.Test.YtbigoifpfkdkjaaGreatDoorTd17
import Derived.ArgAppend
namespace Go.Proofs.YtbigoifpfkdkjaaGreatDoor.Any
open Go Go.RowKit Sc
section
variable {ops : Array Oper} {S : Nat → Spec} {w0 : World}
/-- A paper, its fields in a row of its own. -/
def docS (k : Int) (num : ByteArray) (m : Nat) (ss : List ByteArray) : Spec := ⟨fun v w => ∃ a c, v = .agg #[.int .i64 k, .string num, .string ⟨#[115]⟩, .slice a m c] ∧ w.ownsRow 0 256 2 (.slice a m c) m (fdCells (fdsN ss m)), fun v => (aggAt 3 v).ownBlock, []⟩
theorem lasts_docS (k : Int) (num : ByteArray) (m : Nat) (ss : List ByteArray) : Lasts (docS k num m ss) w0 :=
  ⟨fun v w h b hb => by
    obtain ⟨a, c, rfl, h⟩ := h
    exact (h.lt b hb).2, fun v w w' h _ _ _ hk => by
    obtain ⟨a, c, rfl, h⟩ := h
    exact ⟨a, c, rfl, ownsRow_same h hk⟩⟩
theorem docS_elim {k : Int} {num : ByteArray} {m : Nat} {ss : List ByteArray} {v : Value} {w : World} {G : Prop} (h : (docS k num m ss).know v w) (f : ∀ a c, v = .agg #[.int .i64 k, .string num, .string ⟨#[115]⟩, .slice a m c] → w.ownsRow 0 256 2 (.slice a m c) m (fdCells (fdsN ss m)) → G) : G := by
  obtain ⟨a, c, h1, h2⟩ := h
  exact f a c h1 h2
/-- Some slice. -/
def slS : Spec := ⟨fun v _ => ∃ a n c, v = .slice a n c, fun _ => none, []⟩
theorem lasts_slS : Lasts slS w0 := ⟨fun _ _ _ _ h => (by cases h), fun _ _ _ h _ _ _ _ => h⟩
theorem slS_elim {v : Value} {w : World} {G : Prop} (h : slS.know v w) (f : ∀ a n c, v = .slice a n c → G) : G := by
  obtain ⟨a, n, c, h1⟩ := h
  exact f a n c h1
/-- Some paper that is wanted. -/
def needS (k : Int) : Spec := ⟨fun v _ => ∃ a n c, v = .agg #[.int .i64 k, .int .i64 1, .int .i64 0, .int .i64 0, .string ⟨#[]⟩, .string ⟨#[]⟩, .int .i64 0, .slice a n c], fun _ => none, []⟩
theorem lasts_needS (k : Int) : Lasts (needS k) w0 := ⟨fun _ _ _ _ h => (by cases h), fun _ _ _ h _ _ _ _ => h⟩
theorem needS_elim {k : Int} {v : Value} {w : World} {G : Prop} (h : (needS k).know v w) (f : ∀ a n c, v = .agg #[.int .i64 k, .int .i64 1, .int .i64 0, .int .i64 0, .string ⟨#[]⟩, .string ⟨#[]⟩, .int .i64 0, .slice a n c] → G) : G := by
  obtain ⟨a, n, c, h1⟩ := h
  exact f a n c h1
/-- A new slice, whatever its cells. -/
def rowS (e : TypeId) (n size : Nat) : Spec := ⟨fun v w => ∃ b cs, v = .slice (some ⟨b, 0, none⟩) n n ∧ w.heap[b]? = some (.cells cs e (0, 0)) ∧ cs.size = size, Value.ownBlock, []⟩
theorem lasts_rowS (e : TypeId) (n size : Nat) : Lasts (rowS e n size) w0 :=
  ⟨fun v w h b hb => by
    obtain ⟨g, cs, rfl, hg, _⟩ := h
    obtain rfl : g = b := Option.some.inj hb
    exact lt_blk hg,
   fun v w w' h _ _ _ hk => by
    obtain ⟨g, cs, rfl, hg, hs⟩ := h
    exact ⟨g, cs, rfl, (hk g rfl).trans hg, hs⟩⟩
theorem rowS_elim {e : TypeId} {n size : Nat} {v : Value} {w : World} {G : Prop} (h : (rowS e n size).know v w) (f : ∀ b cs, v = .slice (some ⟨b, 0, none⟩) n n → w.heap[b]? = some (.cells cs e (0, 0)) → cs.size = size → G) : G := by
  obtain ⟨b, cs, h1, h2, h3⟩ := h
  exact f b cs h1 h2 h3
theorem addr_at (b j : Nat) : (⟨b, 0, none⟩ : Addr).add j = ⟨b, j, none⟩ := by
  unfold Addr.add
  split
  · subst_vars; rfl
  · simp
/-- An append to a full row: a new one, what stood stays. -/
theorem ok_append_full {P : Program} {dst : Option Tmp} {t : TypeId} {pos : String} {after : Array Edge} {gd : Option (Nat × Bool)} {ρ : Operand → Value} {w : World} {R : Value → World → Prop} {te e : TypeId} {i : TypeInfo} {z : Value} {size bytes n b g : Nat} {x y : Operand} {cs ds : Array Value} {T T' : TypeId}
    (hu : P.underlying te = some (.slice e)) (hi : P.info? e = some i) (hz : i.zero = some z) (hsz : i.size = size) (hby : i.bytes = bytes) (hzs : z.cells.size = size) (hpos : 0 < size)
    (hx : ρ x = .slice (some ⟨b, 0, none⟩) n n) (hb : w.heap[b]? = some (.cells cs T (0, 0))) (hcs : cs.size = n * size) (hy : ρ y = .slice (some ⟨g, 0, none⟩) 1 1) (hg : w.heap[g]? = some (.cells ds T' (0, 0))) (hds : ds.size = size)
    (h63 : n + 1 ≤ maxLen) (hbb : (n + 1) * bytes ≤ 140737488355328) (h : ∀ a c w', Below w.heap.size w w' → R (.slice a (n + 1) c) w') :
    OpOk P ⟨dst, .call ⟨.builtin .append, #[x, y], #[te, te]⟩, t, pos, after, gd⟩ ρ w R := by
  obtain ⟨v', w', hr, h2, h3⟩ := run_append_arg_grows (P := P) (w := w) te t e i z size bytes hu hi hz hsz hby hzs hpos ⟨b, 0, none⟩ n n cs.toList (by simpa using hcs) (fun j u hj => by
      rw [addr_at, cell_blk hb j, ← Array.getElem?_toList]; exact hj) ⟨g, 0, none⟩ 1 1 ds.toList (by simpa using hds) (fun j u hj => by
      rw [addr_at, cell_blk hg j, ← Array.getElem?_toList]; exact hj) (by omega) h63 hbb
  obtain ⟨a, c, rfl⟩ := Sc.ownsRow_shape h2
  unfold OpOk
  simp [execOp, resolve, invoke, builtin, hx, hy, hr, Result.andThen]
  exact h a c w' ((Below.refl w.heap.size w).grown h3 (Nat.le_refl _) (fun b hb => by cases hb))
/-- Some slice of so many. -/
def slN (n : Nat) : Spec := ⟨fun v _ => ∃ a c, v = .slice a n c, fun _ => none, []⟩
theorem lasts_slN (n : Nat) : Lasts (slN n) w0 := ⟨fun _ _ _ _ h => (by cases h), fun _ _ _ h _ _ _ _ => h⟩
end
end Go.Proofs.YtbigoifpfkdkjaaGreatDoor.Any
namespace Go.Proofs.YtbigoifpfkdkjaaGreatDoor.Sc
open Go Go.RowKit Go.ChangeShapes Go.WideShapes Go.ChangeAt
set_option maxRecDepth 100000

def al1S : List ByteArray := [⟨#[115, 101, 108, 108, 101, 114]⟩, ⟨#[98, 117, 121, 101, 114]⟩, ⟨#[99, 117, 114, 114, 101, 110, 99, 121]⟩, ⟨#[115, 117, 109]⟩, ⟨#[102, 114, 111, 109]⟩, ⟨#[116, 111]⟩]
def al2S : List ByteArray := [⟨#[98, 111, 120, 101, 115]⟩, ⟨#[109, 97, 114, 107, 115]⟩]
def al3S : List ByteArray := [⟨#[115, 101, 108, 108, 101, 114]⟩, ⟨#[99, 111, 117, 110, 116, 114, 121]⟩]
def crW : Cr := ⟨⟨#[100]⟩, ⟨#[121]⟩, ⟨#[115]⟩, ⟨#[]⟩, ⟨#[]⟩, ⟨#[]⟩, ⟨#[]⟩, ⟨#[85, 83, 68]⟩, 5, 0, 0, 0, 0, 21, 0, false, true, none, 0, 0⟩
theorem three_boxes (w : World) (o p q : Obj) : Below w.heap.size w (((w.alloc o).alloc p).alloc q) ∧ (((w.alloc o).alloc p).alloc q).heap[w.heap.size]? = some o ∧ (((w.alloc o).alloc p).alloc q).heap[w.heap.size + 1]? = some p ∧ (((w.alloc o).alloc p).alloc q).heap[w.heap.size + 2]? = some q := by
  obtain ⟨h1, h2, h3⟩ := two_boxes w o p
  have h4 := heap_alloc_new ((w.alloc o).alloc p) q
  have h5 := one_below ((w.alloc o).alloc p) q
  refine ⟨h1.trans (h5.mono h1.size), blk h5 (lt_blk h2) h2, blk h5 (lt_blk h3) h3, ?_⟩
  simpa using h4
theorem wantRes : (Tryz.f38).results = #[.cell 2 30] := by kernel_rfl
theorem needInfo : (Tryz.prog.info? 191).map (fun i => (i.zero, i.size, i.bytes)) = some (some (.agg #[.int .i64 0, .int .i64 0, .int .i64 0, .int .i64 0, .string ⟨#[]⟩, .string ⟨#[]⟩, .int .i64 0, .slice none 0 0]), 8, 96) := by kernel_rfl
set_option maxHeartbeats 2000000 in
theorem wanted_any (w : World) (ht : TabW w) : Calls Tryz.prog 38 #[.agg dealC] w fun e w' => ∃ a c, e = .returned (.agg ({ crW with na := a, nl := 4, nc := c } : Cr).cells) ∧ Below w.heap.size w w' := by
  obtain ⟨W1, hW1⟩ : ∃ W, W = (w.alloc (.cells dealC 111)).alloc (.cells Cr.zero.cells 30) := ⟨_, rfl⟩
  have h2 := two_boxes w (.cells dealC 111) (.cells Cr.zero.cells 30)
  have h3 := three_boxes w (.cells dealC 111) (.cells Cr.zero.cells 30) (.cells crW.cells 30)
  rw [← hW1] at h2 h3
  have hsz : W1.heap.size = w.heap.size + 2 := by rw [hW1]; simp
  have HB0 := Lib.hid h3.1
  have HX0 := Lib.hid h3.2.1
  have HX1 := Lib.hid h3.2.2.1
  have HX2 := Lib.hid h3.2.2.2
  have e1 := hW1.symm
  have hds : dealC.size = 17 := rfl
  have HTW := Lib.hid (fun W (hW : Below (W1.alloc (.cells crW.cells 30)).heap.size (W1.alloc (.cells crW.cells 30)) W) => (ht.below h3.1).below hW)
  have d0 : W1.cell? ⟨w.heap.size, 0, none⟩ = some (.string ⟨#[100]⟩) := cell_blk h2.2.1 0
  have d2 : W1.cell? ⟨w.heap.size, 2, none⟩ = some (.string ⟨#[121]⟩) := cell_blk h2.2.1 2
  have d1 : W1.cell? ⟨w.heap.size, 1, none⟩ = some (.string ⟨#[115]⟩) := cell_blk h2.2.1 1
  have d4 : W1.cell? ⟨w.heap.size, 4, none⟩ = some (.string ⟨#[]⟩) := cell_blk h2.2.1 4
  have d7 : W1.cell? ⟨w.heap.size, 7, none⟩ = some (.string ⟨#[]⟩) := cell_blk h2.2.1 7
  have d8 : W1.cell? ⟨w.heap.size, 8, none⟩ = some (.string ⟨#[]⟩) := cell_blk h2.2.1 8
  have d9 : W1.cell? ⟨w.heap.size, 9, none⟩ = some (.string ⟨#[85, 83, 68]⟩) := cell_blk h2.2.1 9
  have d10 : W1.cell? ⟨w.heap.size, 10, none⟩ = some (.int .i64 5) := cell_blk h2.2.1 10
  have d13 : W1.cell? ⟨w.heap.size, 13, none⟩ = some (.int .i64 0) := cell_blk h2.2.1 13
  have d14 : W1.cell? ⟨w.heap.size, 14, none⟩ = some (.int .i64 0) := cell_blk h2.2.1 14
  have d15 : W1.cell? ⟨w.heap.size, 15, none⟩ = some (.int .i64 0) := cell_blk h2.2.1 15
  have HSZ := Lib.hid hsz
  obtain ⟨i0, hi, hz, hisz, hby⟩ := info_parts needInfo
  have HI := Lib.hid (And.intro hi (And.intro hz (And.intro hisz hby)))
  clear hi hz hisz hby
  clear h2 h3 hW1 ht hsz
  go_enter Tryz.func38, Tryz.ntmps38
  go_upto_region 1 with (first
    | refine alloc_cr ?_
    | fail)
  (try rw [e1])
  clear e1
  go_upto_region 2 with (first
    | ((with_reducible refine new_cr 3 (.tmp 24) crW ?_ ?_ ?_); rfl; rfl)
    | fail)
  clear d0 d2 d1 d4 d7 d8 d9 d10 d13 d14 d15
  rw [HSZ.out]
  generalize W1.alloc (.cells crW.cells 30) = W2 at *
  refine Any.region_litL (fun
    | 0 => Any.val (.agg dealC)
    | 1 => Any.docS 0 ⟨#[105, 118, 45, 100]⟩ 8 invS
    | 2 => Any.made 9 6 #[.string ⟨#[115, 101, 108, 108, 101, 114]⟩, .string ⟨#[98, 117, 121, 101, 114]⟩, .string ⟨#[99, 117, 114, 114, 101, 110, 99, 121]⟩, .string ⟨#[115, 117, 109]⟩, .string ⟨#[102, 114, 111, 109]⟩, .string ⟨#[116, 111]⟩]
    | 3 => Any.slS
    | 4 => Any.needS 0
    | 5 => Any.val (.agg dealC)
    | 6 => Any.docS 1 ⟨#[112, 107, 45, 100]⟩ 6 pakS
    | 7 => Any.made 9 2 #[.string ⟨#[98, 111, 120, 101, 115]⟩, .string ⟨#[109, 97, 114, 107, 115]⟩]
    | 8 => Any.slS
    | 9 => Any.needS 1
    | 10 => Any.val (.pointer (some ⟨w.heap.size, 3, none⟩))
    | 11 => Any.val (.string ⟨#[]⟩)
    | 12 => Any.val (.agg #[.int .i64 3, .int .i64 0, .string ⟨#[99, 97, 114, 114, 105, 101, 114]⟩, .string ⟨#[]⟩, .int .i64 0, .slice none 0 0])
    | 13 => Any.val (.pointer (some ⟨w.heap.size, 1, none⟩))
    | 14 => Any.val (.string ⟨#[115]⟩)
    | 15 => Any.val (.agg #[.int .i64 3, .int .i64 0, .string ⟨#[115, 104, 105, 112, 112, 101, 114]⟩, .string ⟨#[115]⟩, .int .i64 0, .slice none 0 0])
    | 16 => Any.val (.pointer (some ⟨w.heap.size, 7, none⟩))
    | 17 => Any.val (.string ⟨#[]⟩)
    | 18 => Any.val (.agg #[.int .i64 3, .int .i64 0, .string ⟨#[102, 114, 111, 109]⟩, .string ⟨#[]⟩, .int .i64 0, .slice none 0 0])
    | 19 => Any.val (.pointer (some ⟨w.heap.size, 8, none⟩))
    | 20 => Any.val (.string ⟨#[]⟩)
    | 21 => Any.val (.agg #[.int .i64 3, .int .i64 0, .string ⟨#[116, 111]⟩, .string ⟨#[]⟩, .int .i64 0, .slice none 0 0])
    | 22 => Any.val (.pointer (some ⟨w.heap.size, 11, none⟩))
    | 23 => Any.val (.slice none 0 0)
    | 24 => Any.val (.string ⟨#[]⟩)
    | 25 => Any.val (.agg #[.int .i64 3, .int .i64 0, .string ⟨#[109, 97, 114, 107, 115]⟩, .string ⟨#[]⟩, .int .i64 0, .slice none 0 0])
    | 26 => Any.val (.agg #[.int .i64 3, .int .i64 0, .string ⟨#[99, 108, 101, 97, 110]⟩, .string ⟨#[121, 101, 115]⟩, .int .i64 0, .slice none 0 0])
    | 27 => Any.val (.pointer (some ⟨w.heap.size, 13, none⟩))
    | 28 => Any.val (.int .i64 0)
    | 29 => Any.val (.agg #[.int .i64 5, .int .i64 0, .string ⟨#[105, 115, 115, 117, 101, 100]⟩, .string ⟨#[]⟩, .int .i64 0, .slice none 0 0])
    | 30 => Any.slS
    | 31 => Any.needS 2
    | 32 => Any.rowS 191 3 24
    | 33 => Any.val (.pointer (some ⟨w.heap.size + 2, 17, none⟩))
    | _ => Any.idle) 34 _ (by kernel_rfl) rfl rfl rfl (by kernel_rfl) (by kernel_rfl) (by kernel_rfl) ?_ ?_ ?_
  · intro i _
    match i with
    | 0 => exact Any.lasts_val _
    | 1 => exact Any.lasts_docS _ _ _ _
    | 2 => exact Any.lasts_made _ _ _
    | 3 => exact Any.lasts_slS
    | 4 => exact Any.lasts_needS _
    | 5 => exact Any.lasts_val _
    | 6 => exact Any.lasts_docS _ _ _ _
    | 7 => exact Any.lasts_made _ _ _
    | 8 => exact Any.lasts_slS
    | 9 => exact Any.lasts_needS _
    | 10 => exact Any.lasts_val _
    | 11 => exact Any.lasts_val _
    | 12 => exact Any.lasts_val _
    | 13 => exact Any.lasts_val _
    | 14 => exact Any.lasts_val _
    | 15 => exact Any.lasts_val _
    | 16 => exact Any.lasts_val _
    | 17 => exact Any.lasts_val _
    | 18 => exact Any.lasts_val _
    | 19 => exact Any.lasts_val _
    | 20 => exact Any.lasts_val _
    | 21 => exact Any.lasts_val _
    | 22 => exact Any.lasts_val _
    | 23 => exact Any.lasts_val _
    | 24 => exact Any.lasts_val _
    | 25 => exact Any.lasts_val _
    | 26 => exact Any.lasts_val _
    | 27 => exact Any.lasts_val _
    | 28 => exact Any.lasts_val _
    | 29 => exact Any.lasts_val _
    | 30 => exact Any.lasts_slS
    | 31 => exact Any.lasts_needS _
    | 32 => exact Any.lasts_rowS _ _ _
    | 33 => exact Any.lasts_val _
    | n + 34 => exact Any.lasts_idle
  · simp only [List.take_succ_cons, List.take_zero]
    refine ⟨?_, ?_, ?_, ?_, ?_, ?_, ?_, ?_, ?_, ?_, ?_, ?_, ?_, ?_, ?_, ?_, ?_, ?_, ?_, ?_, ?_, ?_, ?_, ?_, ?_, ?_, ?_, ?_, ?_, ?_, ?_, ?_, ?_, ?_, trivial⟩
    · refine Any.owes_plain rfl fun ρ wo hs' hb hc' => ?_
      have h1 : ρ (.tmp 1) = .pointer (some ⟨w.heap.size, 0, none⟩) := hs'.old' 1 (by kernel_rfl)
      exact ok_load_deal w.heap.size _ h1 (blk hb (lt_blk HX0.out) HX0.out) (Any.post_val hb rfl rfl)
    · refine Any.owes_plain rfl fun ρ wo hs' hb hc' => ?_
      have h25 : ρ (.tmp 25) = .agg dealC := hs'.new' 25 0 (by kernel_rfl)
      have hf := hs'.func 96
      go_simp
      exact (invoice_any wo).mono fun e w' ⟨a, c, he, ho, hb'⟩ => ⟨_, he, Any.post_new hb ⟨a, c, rfl, ownsRow_base ho (Nat.zero_le _)⟩ hb' (fun b h => (ho.lt b h).1)⟩
    · refine Any.owes_plain rfl fun ρ wo hs' hb hc' => ?_
      go_simp
      exact Any.post_new hb ⟨_, rfl, heap_alloc_new _ _⟩ (one_below _ _) (by intro b hb'; obtain rfl : wo.heap.size = b := Option.some.inj hb'; exact Nat.le_refl _)
    · refine Any.owes_plain rfl fun ρ wo hs' hb hc' => ?_
      have hf := hs'.func 95
      have hq := hs'.new' 26 1 (by kernel_rfl)
      have hn := made_know (ss := al1S) (hs'.new' 27 2 (by kernel_rfl)) rfl rfl
      refine Any.docS_elim hq fun a c h8 h9 => ?_
      have hr : wo.ownsRow 0 256 2 (.slice a 8 c) (fdsN invS 8).length (fdCells (fdsN invS 8)) := h9
      go_simp
      exact (alike_any 0 ⟨#[105, 118, 45, 100]⟩ ⟨#[115]⟩ (fdsN invS 8) 8 a c al1S _ wo (own_fds hr rfl) hn (by decide)).mono fun e w' ⟨a2, n2, c2, he, hb'⟩ => ⟨_, he, Any.post_new hb ⟨a2, n2, c2, rfl⟩ hb' (fun b h => by cases h)⟩
    · refine Any.owes_plain rfl fun ρ wo hs' hb hc' => ?_
      have hf := hs'.func 94
      have hq := hs'.new' 28 3 (by kernel_rfl)
      refine Any.slS_elim hq fun a n c h9 => ?_
      go_simp
      exact (need_any 0 a n c wo).mono fun e w' ⟨he, hb'⟩ => ⟨_, he, Any.post_new hb ⟨a, n, c, rfl⟩ hb' (fun b h => by cases h)⟩
    · refine Any.owes_plain rfl fun ρ wo hs' hb hc' => ?_
      have h1 : ρ (.tmp 1) = .pointer (some ⟨w.heap.size, 0, none⟩) := hs'.old' 1 (by kernel_rfl)
      exact ok_load_deal w.heap.size _ h1 (blk hb (lt_blk HX0.out) HX0.out) (Any.post_val hb rfl rfl)
    · refine Any.owes_plain rfl fun ρ wo hs' hb hc' => ?_
      have h30 : ρ (.tmp 30) = .agg dealC := hs'.new' 30 5 (by kernel_rfl)
      have hf := hs'.func 97
      go_simp
      exact (packing_any wo (HTW.out wo (below_undrew hb))).mono fun e w' ⟨a, c, he, ho, hb'⟩ => ⟨_, he, Any.post_new hb ⟨a, c, rfl, ownsRow_base ho (Nat.zero_le _)⟩ hb' (fun b h => (ho.lt b h).1)⟩
    · refine Any.owes_plain rfl fun ρ wo hs' hb hc' => ?_
      go_simp
      exact Any.post_new hb ⟨_, rfl, heap_alloc_new _ _⟩ (one_below _ _) (by intro b hb'; obtain rfl : wo.heap.size = b := Option.some.inj hb'; exact Nat.le_refl _)
    · refine Any.owes_plain rfl fun ρ wo hs' hb hc' => ?_
      have hf := hs'.func 95
      have hq := hs'.new' 31 6 (by kernel_rfl)
      have hn := made_know (ss := al2S) (hs'.new' 32 7 (by kernel_rfl)) rfl rfl
      refine Any.docS_elim hq fun a c h8 h9 => ?_
      have hr : wo.ownsRow 0 256 2 (.slice a 6 c) (fdsN pakS 6).length (fdCells (fdsN pakS 6)) := h9
      go_simp
      exact (alike_any 1 ⟨#[112, 107, 45, 100]⟩ ⟨#[115]⟩ (fdsN pakS 6) 6 a c al2S _ wo (own_fds hr rfl) hn (by decide)).mono fun e w' ⟨a2, n2, c2, he, hb'⟩ => ⟨_, he, Any.post_new hb ⟨a2, n2, c2, rfl⟩ hb' (fun b h => by cases h)⟩
    · refine Any.owes_plain rfl fun ρ wo hs' hb hc' => ?_
      have hf := hs'.func 94
      have hq := hs'.new' 33 8 (by kernel_rfl)
      refine Any.slS_elim hq fun a n c h9 => ?_
      go_simp
      exact (need_any 1 a n c wo).mono fun e w' ⟨he, hb'⟩ => ⟨_, he, Any.post_new hb ⟨a, n, c, rfl⟩ hb' (fun b h => by cases h)⟩
    · refine Any.owes_plain rfl fun ρ wo hs' hb hc' => ?_
      have h1 : ρ (.tmp 1) = .pointer (some ⟨w.heap.size, 0, none⟩) := hs'.old' 1 (by kernel_rfl)
      go_simp
      exact Any.post_val hb rfl rfl
    · refine Any.owes_plain rfl fun ρ wo hs' hb hc' => ?_
      have h35 : ρ (.tmp 35) = .pointer (some ⟨w.heap.size, 3, none⟩) := hs'.new' 35 10 (by kernel_rfl)
      have c0 : wo.cell? ⟨w.heap.size, 3, none⟩ = some (.string ⟨#[]⟩) := cell_blk (blk hb (lt_blk HX0.out) HX0.out) 3
      go_simp
      exact Any.post_val hb rfl rfl
    · refine Any.owes_plain rfl fun ρ wo hs' hb hc' => ?_
      have h36 : ρ (.tmp 36) = .string ⟨#[]⟩ := hs'.new' 36 11 (by kernel_rfl)
      have hf := hs'.func 98
      go_simp
      exact (is_any ⟨#[99, 97, 114, 114, 105, 101, 114]⟩ ⟨#[]⟩ wo).mono fun e w' ⟨he, hb'⟩ => ⟨_, he, Any.post_vals hb rfl rfl hb'⟩
    · refine Any.owes_plain rfl fun ρ wo hs' hb hc' => ?_
      have h1 : ρ (.tmp 1) = .pointer (some ⟨w.heap.size, 0, none⟩) := hs'.old' 1 (by kernel_rfl)
      go_simp
      exact Any.post_val hb rfl rfl
    · refine Any.owes_plain rfl fun ρ wo hs' hb hc' => ?_
      have h38 : ρ (.tmp 38) = .pointer (some ⟨w.heap.size, 1, none⟩) := hs'.new' 38 13 (by kernel_rfl)
      have c0 : wo.cell? ⟨w.heap.size, 1, none⟩ = some (.string ⟨#[115]⟩) := cell_blk (blk hb (lt_blk HX0.out) HX0.out) 1
      go_simp
      exact Any.post_val hb rfl rfl
    · refine Any.owes_plain rfl fun ρ wo hs' hb hc' => ?_
      have h39 : ρ (.tmp 39) = .string ⟨#[115]⟩ := hs'.new' 39 14 (by kernel_rfl)
      have hf := hs'.func 98
      go_simp
      exact (is_any ⟨#[115, 104, 105, 112, 112, 101, 114]⟩ ⟨#[115]⟩ wo).mono fun e w' ⟨he, hb'⟩ => ⟨_, he, Any.post_vals hb rfl rfl hb'⟩
    · refine Any.owes_plain rfl fun ρ wo hs' hb hc' => ?_
      have h1 : ρ (.tmp 1) = .pointer (some ⟨w.heap.size, 0, none⟩) := hs'.old' 1 (by kernel_rfl)
      go_simp
      exact Any.post_val hb rfl rfl
    · refine Any.owes_plain rfl fun ρ wo hs' hb hc' => ?_
      have h41 : ρ (.tmp 41) = .pointer (some ⟨w.heap.size, 7, none⟩) := hs'.new' 41 16 (by kernel_rfl)
      have c0 : wo.cell? ⟨w.heap.size, 7, none⟩ = some (.string ⟨#[]⟩) := cell_blk (blk hb (lt_blk HX0.out) HX0.out) 7
      go_simp
      exact Any.post_val hb rfl rfl
    · refine Any.owes_plain rfl fun ρ wo hs' hb hc' => ?_
      have h42 : ρ (.tmp 42) = .string ⟨#[]⟩ := hs'.new' 42 17 (by kernel_rfl)
      have hf := hs'.func 98
      go_simp
      exact (is_any ⟨#[102, 114, 111, 109]⟩ ⟨#[]⟩ wo).mono fun e w' ⟨he, hb'⟩ => ⟨_, he, Any.post_vals hb rfl rfl hb'⟩
    · refine Any.owes_plain rfl fun ρ wo hs' hb hc' => ?_
      have h1 : ρ (.tmp 1) = .pointer (some ⟨w.heap.size, 0, none⟩) := hs'.old' 1 (by kernel_rfl)
      go_simp
      exact Any.post_val hb rfl rfl
    · refine Any.owes_plain rfl fun ρ wo hs' hb hc' => ?_
      have h44 : ρ (.tmp 44) = .pointer (some ⟨w.heap.size, 8, none⟩) := hs'.new' 44 19 (by kernel_rfl)
      have c0 : wo.cell? ⟨w.heap.size, 8, none⟩ = some (.string ⟨#[]⟩) := cell_blk (blk hb (lt_blk HX0.out) HX0.out) 8
      go_simp
      exact Any.post_val hb rfl rfl
    · refine Any.owes_plain rfl fun ρ wo hs' hb hc' => ?_
      have h45 : ρ (.tmp 45) = .string ⟨#[]⟩ := hs'.new' 45 20 (by kernel_rfl)
      have hf := hs'.func 98
      go_simp
      exact (is_any ⟨#[116, 111]⟩ ⟨#[]⟩ wo).mono fun e w' ⟨he, hb'⟩ => ⟨_, he, Any.post_vals hb rfl rfl hb'⟩
    · refine Any.owes_plain rfl fun ρ wo hs' hb hc' => ?_
      have h1 : ρ (.tmp 1) = .pointer (some ⟨w.heap.size, 0, none⟩) := hs'.old' 1 (by kernel_rfl)
      go_simp
      exact Any.post_val hb rfl rfl
    · refine Any.owes_plain rfl fun ρ wo hs' hb hc' => ?_
      have h47 : ρ (.tmp 47) = .pointer (some ⟨w.heap.size, 11, none⟩) := hs'.new' 47 22 (by kernel_rfl)
      have c0 : wo.cell? ⟨w.heap.size, 11, none⟩ = some (.slice none 0 0) := cell_blk (blk hb (lt_blk HX0.out) HX0.out) 11
      go_simp
      exact Any.post_val hb rfl rfl
    · refine Any.owes_plain rfl fun ρ wo hs' hb hc' => ?_
      have h48 : ρ (.tmp 48) = .slice none 0 0 := hs'.new' 48 23 (by kernel_rfl)
      have hf := hs'.func 99
      go_simp
      exact (marks_none wo).mono fun e w' ⟨he, hb'⟩ => ⟨_, he, Any.post_vals hb rfl rfl hb'⟩
    · refine Any.owes_plain rfl fun ρ wo hs' hb hc' => ?_
      have h49 : ρ (.tmp 49) = .string ⟨#[]⟩ := hs'.new' 49 24 (by kernel_rfl)
      have hf := hs'.func 98
      go_simp
      exact (is_any ⟨#[109, 97, 114, 107, 115]⟩ ⟨#[]⟩ wo).mono fun e w' ⟨he, hb'⟩ => ⟨_, he, Any.post_vals hb rfl rfl hb'⟩
    · refine Any.owes_plain rfl fun ρ wo hs' hb hc' => ?_
      have hf := hs'.func 98
      go_simp
      exact (is_any ⟨#[99, 108, 101, 97, 110]⟩ ⟨#[121, 101, 115]⟩ wo).mono fun e w' ⟨he, hb'⟩ => ⟨_, he, Any.post_vals hb rfl rfl hb'⟩
    · refine Any.owes_plain rfl fun ρ wo hs' hb hc' => ?_
      have h1 : ρ (.tmp 1) = .pointer (some ⟨w.heap.size, 0, none⟩) := hs'.old' 1 (by kernel_rfl)
      go_simp
      exact Any.post_val hb rfl rfl
    · refine Any.owes_plain rfl fun ρ wo hs' hb hc' => ?_
      have h52 : ρ (.tmp 52) = .pointer (some ⟨w.heap.size, 13, none⟩) := hs'.new' 52 27 (by kernel_rfl)
      have c0 : wo.cell? ⟨w.heap.size, 13, none⟩ = some (.int .i64 0) := cell_blk (blk hb (lt_blk HX0.out) HX0.out) 13
      go_simp
      exact Any.post_val hb rfl rfl
    · refine Any.owes_plain rfl fun ρ wo hs' hb hc' => ?_
      have h53 : ρ (.tmp 53) = .int .i64 0 := hs'.new' 53 28 (by kernel_rfl)
      go_simp
      exact Any.post_val hb rfl rfl
    · refine Any.owes_plain rfl fun ρ wo hs' hb hc' => ?_
      have h37 : ρ (.tmp 37) = .agg #[.int .i64 3, .int .i64 0, .string ⟨#[99, 97, 114, 114, 105, 101, 114]⟩, .string ⟨#[]⟩, .int .i64 0, .slice none 0 0] := hs'.new' 37 12 (by kernel_rfl)
      have h40 : ρ (.tmp 40) = .agg #[.int .i64 3, .int .i64 0, .string ⟨#[115, 104, 105, 112, 112, 101, 114]⟩, .string ⟨#[115]⟩, .int .i64 0, .slice none 0 0] := hs'.new' 40 15 (by kernel_rfl)
      have h43 : ρ (.tmp 43) = .agg #[.int .i64 3, .int .i64 0, .string ⟨#[102, 114, 111, 109]⟩, .string ⟨#[]⟩, .int .i64 0, .slice none 0 0] := hs'.new' 43 18 (by kernel_rfl)
      have h46 : ρ (.tmp 46) = .agg #[.int .i64 3, .int .i64 0, .string ⟨#[116, 111]⟩, .string ⟨#[]⟩, .int .i64 0, .slice none 0 0] := hs'.new' 46 21 (by kernel_rfl)
      have h50 : ρ (.tmp 50) = .agg #[.int .i64 3, .int .i64 0, .string ⟨#[109, 97, 114, 107, 115]⟩, .string ⟨#[]⟩, .int .i64 0, .slice none 0 0] := hs'.new' 50 25 (by kernel_rfl)
      have h51 : ρ (.tmp 51) = .agg #[.int .i64 3, .int .i64 0, .string ⟨#[99, 108, 101, 97, 110]⟩, .string ⟨#[121, 101, 115]⟩, .int .i64 0, .slice none 0 0] := hs'.new' 51 26 (by kernel_rfl)
      have h54 : ρ (.tmp 54) = .agg #[.int .i64 5, .int .i64 0, .string ⟨#[105, 115, 115, 117, 101, 100]⟩, .string ⟨#[]⟩, .int .i64 0, .slice none 0 0] := hs'.new' 54 29 (by kernel_rfl)
      go_simp
      exact Any.post_new hb ⟨_, _, _, rfl⟩ (one_below _ _) (fun b h => by cases h)
    · refine Any.owes_plain rfl fun ρ wo hs' hb hc' => ?_
      have hf := hs'.func 94
      have hq := hs'.new' 55 30 (by kernel_rfl)
      refine Any.slS_elim hq fun a n c h9 => ?_
      go_simp
      exact (need_any 2 a n c wo).mono fun e w' ⟨he, hb'⟩ => ⟨_, he, Any.post_new hb ⟨a, n, c, rfl⟩ hb' (fun b h => by cases h)⟩
    · refine Any.owes_plain rfl fun ρ wo hs' hb hc' => ?_
      have q0 := hs'.new' 29 4 (by kernel_rfl)
      have q1 := hs'.new' 34 9 (by kernel_rfl)
      have q2 := hs'.new' 56 31 (by kernel_rfl)
      refine Any.needS_elim q0 fun a0 n0 c0 g0 => Any.needS_elim q1 fun a1 n1 c1 g1 => Any.needS_elim q2 fun a2 n2 c2 g2 => ?_
      go_simp
      exact Any.post_new hb ⟨_, _, rfl, heap_alloc_new _ _, rfl⟩ (one_below _ _) (by intro b hb'; obtain rfl : wo.heap.size = b := Option.some.inj hb'; exact Nat.le_refl _)
    · refine Any.owes_plain rfl fun ρ wo hs' hb hc' => ?_
      have h3 : ρ (.tmp 3) = .pointer (some ⟨w.heap.size + 2, 0, none⟩) := hs'.old' 3 (by kernel_rfl)
      go_simp
      exact Any.post_val hb rfl rfl
  intro vals w5 hb hk
  have hq : (Any.rowS 191 3 24).know (vals 32) w5 := hk 32 (by kernel_rfl)
  have h33 : vals 33 = .pointer (some ⟨w.heap.size + 2, 17, none⟩) := hk 33 (by kernel_rfl)
  have HB5 := Lib.hid (HB0.out.trans (hb.mono HB0.out.size))
  have HX05 := Lib.hid (blk hb (lt_blk HX0.out) HX0.out)
  have HX15 := Lib.hid (blk hb (lt_blk HX1.out) HX1.out)
  have HX25 := Lib.hid (blk hb (lt_blk HX2.out) HX2.out)
  have HQ5 := Lib.hid hq
  have c17 := cell_blk HX25.out 17
  have f17 := free_blk HX25.out 17
  clear hk hb hq
  simp only [List.take_succ_cons, List.take_zero, Any.putAll]
  go_frame
  simp only [Nat.zero_add, Nat.reduceAdd]
  rw [h33]
  clear h33
  generalize vals 32 = v57 at *
  obtain ⟨b57, cs57, hv, hcs, hsz⟩ := HQ5.out
  rw [hv]
  have HC5 := Lib.hid (And.intro hcs hsz)
  clear hv hcs hsz HQ5
  go_simp
  have HX26 := Lib.hid (Box.set_raw HX25.out 17 (.slice (some ⟨b57, 0, none⟩) 3 3))
  have hne : b57 ≠ w.heap.size + 2 := fun e => by
    have h1 := HC5.out.1
    rw [e, HX25.out] at h1
    simp only [Option.some.injEq, Obj.cells.injEq] at h1
    exact absurd h1.2.1 (by decide)
  have HC6 := Lib.hid (And.intro ((Below.heap_setCell w5 ⟨w.heap.size + 2, 17, none⟩ (.slice (some ⟨b57, 0, none⟩) 3 3) b57 hne).trans HC5.out.1) HC5.out.2)
  have HX06 := Lib.hid ((Below.heap_setCell w5 ⟨w.heap.size + 2, 17, none⟩ (.slice (some ⟨b57, 0, none⟩) 3 3) w.heap.size (show ¬ w.heap.size = w.heap.size + 2 by omega)).trans HX05.out)
  have HX16 := Lib.hid ((Below.heap_setCell w5 ⟨w.heap.size + 2, 17, none⟩ (.slice (some ⟨b57, 0, none⟩) 3 3) (w.heap.size + 1) (show ¬ w.heap.size + 1 = w.heap.size + 2 by omega)).trans HX15.out)
  have HB6 := Lib.hid (HB5.out.setCell (p := ⟨w.heap.size + 2, 17, none⟩) (by show w.heap.size ≤ w.heap.size + 2; omega) (.slice (some ⟨b57, 0, none⟩) 3 3))
  generalize w5.setCell ⟨w.heap.size + 2, 17, none⟩ (.slice (some ⟨b57, 0, none⟩) 3 3) = w6 at *
  have d6 : w6.cell? ⟨w.heap.size, 6, none⟩ = some (.string ⟨#[]⟩) := cell_blk HX06.out 6
  clear hne c17 f17
  go_upto_region 5 with fail
  clear d6
  refine Any.region_litL (fun
    | 0 => Any.val (.pointer (some ⟨w.heap.size + 2, 17, none⟩))
    | 1 => Any.val (.slice (some ⟨b57, 0, none⟩) 3 3)
    | 2 => Any.val (.agg dealC)
    | 3 => Any.val (.pointer (some ⟨w.heap.size, 7, none⟩))
    | 4 => Any.val (.string ⟨#[]⟩)
    | 5 => Any.docS 4 ⟨#[111, 114, 45, 100]⟩ 3 orgS
    | 6 => Any.made 9 2 #[.string ⟨#[115, 101, 108, 108, 101, 114]⟩, .string ⟨#[99, 111, 117, 110, 116, 114, 121]⟩]
    | 7 => Any.slS
    | 8 => Any.needS 4
    | 9 => Any.rowS 191 1 8
    | 10 => Any.slN 4
    | 11 => Any.val (.pointer (some ⟨w.heap.size + 2, 17, none⟩))
    | _ => Any.idle) 12 _ (by kernel_rfl) rfl rfl rfl (by kernel_rfl) (by kernel_rfl) (by kernel_rfl) ?_ ?_ ?_
  · intro i _
    match i with
    | 0 => exact Any.lasts_val _
    | 1 => exact Any.lasts_val _
    | 2 => exact Any.lasts_val _
    | 3 => exact Any.lasts_val _
    | 4 => exact Any.lasts_val _
    | 5 => exact Any.lasts_docS _ _ _ _
    | 6 => exact Any.lasts_made _ _ _
    | 7 => exact Any.lasts_slS
    | 8 => exact Any.lasts_needS _
    | 9 => exact Any.lasts_rowS _ _ _
    | 10 => exact Any.lasts_slN _
    | 11 => exact Any.lasts_val _
    | n + 12 => exact Any.lasts_idle
  · simp only [List.take_succ_cons, List.take_zero]
    refine ⟨?_, ?_, ?_, ?_, ?_, ?_, ?_, ?_, ?_, ?_, ?_, ?_, trivial⟩
    · refine Any.owes_plain rfl fun ρ wo hs' hb hc' => ?_
      have h3 : ρ (.tmp 3) = .pointer (some ⟨w.heap.size + 2, 0, none⟩) := hs'.old' 3 (by kernel_rfl)
      go_simp
      exact Any.post_val hb rfl rfl
    · refine Any.owes_plain rfl fun ρ wo hs' hb hc' => ?_
      have h83 : ρ (.tmp 83) = .pointer (some ⟨w.heap.size + 2, 17, none⟩) := hs'.new' 83 0 (by kernel_rfl)
      have c0 : wo.cell? ⟨w.heap.size + 2, 17, none⟩ = some (.slice (some ⟨b57, 0, none⟩) 3 3) := cell_blk (blk hb (lt_blk HX26.out) HX26.out) 17
      go_simp
      exact Any.post_val hb rfl rfl
    · refine Any.owes_plain rfl fun ρ wo hs' hb hc' => ?_
      have h1 : ρ (.tmp 1) = .pointer (some ⟨w.heap.size, 0, none⟩) := hs'.old' 1 (by kernel_rfl)
      exact ok_load_deal w.heap.size _ h1 (blk hb (lt_blk HX06.out) HX06.out) (Any.post_val hb rfl rfl)
    · refine Any.owes_plain rfl fun ρ wo hs' hb hc' => ?_
      have h1 : ρ (.tmp 1) = .pointer (some ⟨w.heap.size, 0, none⟩) := hs'.old' 1 (by kernel_rfl)
      go_simp
      exact Any.post_val hb rfl rfl
    · refine Any.owes_plain rfl fun ρ wo hs' hb hc' => ?_
      have h86 : ρ (.tmp 86) = .pointer (some ⟨w.heap.size, 7, none⟩) := hs'.new' 86 3 (by kernel_rfl)
      have c0 : wo.cell? ⟨w.heap.size, 7, none⟩ = some (.string ⟨#[]⟩) := cell_blk (blk hb (lt_blk HX06.out) HX06.out) 7
      go_simp
      exact Any.post_val hb rfl rfl
    · refine Any.owes_plain rfl fun ρ wo hs' hb hc' => ?_
      have h85 : ρ (.tmp 85) = .agg dealC := hs'.new' 85 2 (by kernel_rfl)
      have h87 : ρ (.tmp 87) = .string ⟨#[]⟩ := hs'.new' 87 4 (by kernel_rfl)
      have hf := hs'.func 100
      go_simp
      exact (origin_any wo).mono fun e w' ⟨a, c, he, ho, hb'⟩ => ⟨_, he, Any.post_new hb ⟨a, c, rfl, ownsRow_base ho (Nat.zero_le _)⟩ hb' (fun b h => (ho.lt b h).1)⟩
    · refine Any.owes_plain rfl fun ρ wo hs' hb hc' => ?_
      go_simp
      exact Any.post_new hb ⟨_, rfl, heap_alloc_new _ _⟩ (one_below _ _) (by intro b hb'; obtain rfl : wo.heap.size = b := Option.some.inj hb'; exact Nat.le_refl _)
    · refine Any.owes_plain rfl fun ρ wo hs' hb hc' => ?_
      have hf := hs'.func 95
      have hq := hs'.new' 88 5 (by kernel_rfl)
      have hn := made_know (ss := al3S) (hs'.new' 89 6 (by kernel_rfl)) rfl rfl
      refine Any.docS_elim hq fun a c h8 h9 => ?_
      have hr : wo.ownsRow 0 256 2 (.slice a 3 c) (fdsN orgS 3).length (fdCells (fdsN orgS 3)) := h9
      go_simp
      exact (alike_any 4 ⟨#[111, 114, 45, 100]⟩ ⟨#[115]⟩ (fdsN orgS 3) 3 a c al3S _ wo (own_fds hr rfl) hn (by decide)).mono fun e w' ⟨a2, n2, c2, he, hb'⟩ => ⟨_, he, Any.post_new hb ⟨a2, n2, c2, rfl⟩ hb' (fun b h => by cases h)⟩
    · refine Any.owes_plain rfl fun ρ wo hs' hb hc' => ?_
      have hf := hs'.func 94
      have hq := hs'.new' 90 7 (by kernel_rfl)
      refine Any.slS_elim hq fun a n c h9 => ?_
      go_simp
      exact (need_any 4 a n c wo).mono fun e w' ⟨he, hb'⟩ => ⟨_, he, Any.post_new hb ⟨a, n, c, rfl⟩ hb' (fun b h => by cases h)⟩
    · refine Any.owes_plain rfl fun ρ wo hs' hb hc' => ?_
      have q0 := hs'.new' 91 8 (by kernel_rfl)
      refine Any.needS_elim q0 fun a0 n0 c0 g0 => ?_
      go_simp
      exact Any.post_new hb ⟨_, _, rfl, heap_alloc_new _ _, rfl⟩ (one_below _ _) (by intro b hb'; obtain rfl : wo.heap.size = b := Option.some.inj hb'; exact Nat.le_refl _)
    · refine Any.owes_plain rfl fun ρ wo hs' hb hc' => ?_
      have h84 : ρ (.tmp 84) = .slice (some ⟨b57, 0, none⟩) 3 3 := hs'.new' 84 1 (by kernel_rfl)
      have q1 := hs'.new' 92 9 (by kernel_rfl)
      refine Any.rowS_elim q1 fun g ds g1 g2 g3 => ?_
      exact Any.ok_append_full (n := 3) Tryz.underlying28 HI.out.1 HI.out.2.1 HI.out.2.2.1 HI.out.2.2.2 rfl (by decide) h84 (blk hb (lt_blk HC6.out.1) HC6.out.1) HC6.out.2 g1 g2 g3 (by decide) (by decide) fun a c w' hb' => Any.post_new hb ⟨a, c, rfl⟩ hb' (fun b h => by cases h)
    · refine Any.owes_plain rfl fun ρ wo hs' hb hc' => ?_
      have h3 : ρ (.tmp 3) = .pointer (some ⟨w.heap.size + 2, 0, none⟩) := hs'.old' 3 (by kernel_rfl)
      go_simp
      exact Any.post_val hb rfl rfl
  intro vals w8 hb hk
  have hq : (Any.slN 4).know (vals 10) w8 := hk 10 (by kernel_rfl)
  have h11 : vals 11 = .pointer (some ⟨w.heap.size + 2, 17, none⟩) := hk 11 (by kernel_rfl)
  have HB8 := Lib.hid (HB6.out.trans (hb.mono HB6.out.size))
  have HX18 := Lib.hid (blk hb (lt_blk HX16.out) HX16.out)
  have HX28 := Lib.hid (blk hb (lt_blk HX26.out) HX26.out)
  have HQ8 := Lib.hid hq
  have c17 := cell_blk HX28.out 17
  have f17 := free_blk HX28.out 17
  clear hk hb hq
  simp only [List.take_succ_cons, List.take_zero, Any.putAll]
  go_frame
  simp only [Nat.zero_add, Nat.reduceAdd]
  rw [h11]
  clear h11
  generalize vals 10 = v93 at *
  obtain ⟨a8, c8, hv⟩ := HQ8.out
  rw [hv]
  clear hv HQ8
  go_simp
  have HX29 : Hid ((w8.setCell ⟨w.heap.size + 2, 17, none⟩ (.slice a8 4 c8)).heap[w.heap.size + 2]? = some (.cells ({ crW with na := a8, nl := 4, nc := c8 } : Cr).cells 30 (0, 0))) := Lib.hid (Box.set_raw HX28.out 17 (.slice a8 4 c8))
  have HX19 := Lib.hid ((Below.heap_setCell w8 ⟨w.heap.size + 2, 17, none⟩ (.slice a8 4 c8) (w.heap.size + 1) (show ¬ w.heap.size + 1 = w.heap.size + 2 by omega)).trans HX18.out)
  have HB9 := Lib.hid (HB8.out.setCell (p := ⟨w.heap.size + 2, 17, none⟩) (by show w.heap.size ≤ w.heap.size + 2; omega) (.slice a8 4 c8))
  obtain ⟨cw, hcw⟩ : ∃ c, c = ({ crW with na := a8, nl := 4, nc := c8 } : Cr) := ⟨_, rfl⟩
  rw [← hcw] at HX29
  have HCW := Lib.hid hcw
  generalize w8.setCell ⟨w.heap.size + 2, 17, none⟩ (.slice a8 4 c8) = w9 at *
  clear c17 f17 hcw
  go_wp2_with (first
    | ((with_reducible refine load_cr (.tmp 3) (w.heap.size + 2) cw _ ?_ ?_ HX29.out ?_); rfl; rfl)
    | (refine wpList_store_row (P := Tryz.prog) rfl 30 (.tmp 2) (.tmp 95) rfl (w.heap.size + 1) cw.cells rfl rfl _ Cr.zero.cells HX19.out (by rw [cr_info]; rfl) rfl (cr_one cw) ?_)
    | fail)
  ((try simp only [Exit.inBlock, Exit.then]); refine bodyPost_ret (results_cell_row wantRes _ _ (w.heap.size + 1) _ _ (0, 0) _ rfl (setRow_at HX19.out) Tryz.underlying30 rfl (by rw [cr_info]; rfl)) rfl ?_)
  exact ⟨⟨a8, c8, by rw [HCW.out]⟩, below_setRow HB9.out (by omega) _⟩
end Go.Proofs.YtbigoifpfkdkjaaGreatDoor.Sc
