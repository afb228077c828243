/- The papers of a fixed deal: what they are made of. -/
import Derived.Test.YtbigoifpfkdkjaaGreatDoorTd18
import Derived.Test.YtbigoifpfkdkjaaGreatDoorTd19
import Derived.Test.YtbigoifpfkdkjaaGreatDoorTd20
import Derived.Test.YtbigoifpfkdkjaaGreatDoorTd13
import Derived.Test.YtbigoifpfkdkjaaGreatDoorTd21
namespace Go.Proofs.YtbigoifpfkdkjaaGreatDoor.Sc
open Go Go.RowKit Go.ChangeShapes Go.WideShapes Go.ChangeAt
set_option maxRecDepth 100000

def dealC : Array Value := #[.string ⟨#[100]⟩, .string ⟨#[115]⟩, .string ⟨#[121]⟩, .string ⟨#[]⟩, .string ⟨#[]⟩, .string ⟨#[]⟩, .string ⟨#[]⟩, .string ⟨#[]⟩, .string ⟨#[]⟩, .string ⟨#[85, 83, 68]⟩, .int .i64 5, .slice none 0 0, .int .i64 0, .int .i64 0, .int .i64 0, .int .i64 0, .int .i64 0]
theorem deal_one : (dealC.all fun x => x.oneCell') = true := by decide +kernel
theorem deal_info : (Tryz.prog.info? 111).map (·.size) = some 17 := by kernel_rfl
theorem deal_under : ∃ fs, Tryz.prog.underlying 111 = some (.struct fs) := ⟨_, Tryz.underlying111⟩
theorem ok_load_deal {dst : Option Tmp} {t : TypeId} {pos : String} {after : Array Edge} {gd : Option (Nat × Bool)} {ρ : Operand → Value} {w : World} {R : Value → World → Prop} {x : Operand} (g : Nat) (t' : TypeId)
    (hx : ρ x = .pointer (some ⟨g, 0, none⟩)) (hg : w.heap[g]? = some (.cells dealC t' (0, 0))) (h : R (.agg dealC) w) : Any.OpOk Tryz.prog ⟨dst, .load 111 x, t, pos, after, gd⟩ ρ w R := by
  obtain ⟨fs, hu⟩ := deal_under
  have hr := run_loadVar_row (P := Tryz.prog) w g t' 111 dealC (0, 0) _ hg hu rfl (by rw [deal_info]; rfl)
  unfold Any.OpOk
  simp only [execOp, hx, Instr.loadAt, Instr.sureAddr, Sem.run_bind, Sem.run_pure, Result.andThen_ok, hr]
  exact h

def digT (n : Nat) : ByteArray := ⟨#[UInt8.ofNat (48 + n)]⟩
theorem digit_text : ∀ n : Nat, n < 10 → (⟨(Lib.decDigits n).toArray⟩ : ByteArray) = digT n := by decide +kernel
theorem count_any (n : Nat) (h : n < 10) (w : World) : Calls Tryz.prog 157 #[.int .i64 n] w (Ret w (.string (digT n))) := by
  have HI := Lib.hid (Tryz.strconv_Itoa_small n (by omega) w)
  rw [digit_text n h] at HI
  clear h
  go_enter Tryz.func157, Tryz.ntmps157
  go_wp2_with (first
    | ((with_reducible refine HI.out.mono ?_); rintro e w2 ⟨rfl, rfl⟩)
    | fail)
  go_ret
  exact ⟨rfl, Below.refl _ _⟩
theorem digits_any (n : Nat) (h : n < 10) (w : World) : Calls Tryz.prog 156 #[.int .i64 n] w (Ret w (.string (digT n))) := by
  have HI := Lib.hid (Tryz.strconv_FormatInt_10_small n (by omega) w)
  rw [digit_text n h] at HI
  clear h
  go_enter Tryz.func156, Tryz.ntmps156
  go_wp2_with (first
    | ((with_reducible refine HI.out.mono ?_); rintro e w2 ⟨rfl, rfl⟩)
    | fail)
  go_ret
  exact ⟨rfl, Below.refl _ _⟩
theorem made_strs {w : World} {v : Value} {g n : Nat} {ss : List ByteArray} {cs : Array Value} {T : TypeId} (hv : v = .slice (some ⟨g, 0, none⟩) n n) (hg : w.heap[g]? = some (.cells cs T (0, 0))) (hc : cs.toList = ss.map Value.string) (hn : ss.length = n) (hm : n ≤ maxLen := by decide) : Sl w 1 v (ss.map stRow) := by
  refine .inr ⟨g, 0, n, by rw [hv, List.length_map, hn], lt_blk hg, by simp [hn], by simpa [hn] using hm, fun i r hr j u hu => ?_⟩
  rw [List.getElem?_map] at hr
  obtain ⟨s, hs, rfl⟩ := Option.map_eq_some_iff.1 hr
  obtain ⟨rfl, rfl⟩ : j = 0 ∧ u = .string s := by
    match j, hu with
    | 0, hu => exact ⟨rfl, (Option.some.inj hu).symm⟩
  have h := cell_blk hg i
  rw [Nat.zero_add, Nat.mul_one, Nat.add_zero, h, ← Array.getElem?_toList, hc, List.getElem?_map, hs]
  rfl

theorem made_know {w : World} {v : Value} {n : Nat} {ss : List ByteArray} {cs : Array Value} {T : TypeId} (h : (Any.made T n cs).know v w) (hc : cs.toList = ss.map Value.string) (hn : ss.length = n) (hm : n ≤ maxLen := by decide) : Sl w 1 v (ss.map stRow) := by
  obtain ⟨g, hv, hg⟩ := h
  exact made_strs hv hg hc hn hm
/-- is, need. -/
theorem isRes : (Tryz.f98).results = #[.cell 4 189] := by kernel_rfl
theorem is_any (a b : ByteArray) (w : World) : Calls Tryz.prog 98 #[.string a, .string b] w (Ret w (.agg #[.int .i64 3, .int .i64 0, .string a, .string b, .int .i64 0, .slice none 0 0])) := by
  have HX := Lib.hid (heap_alloc_new w (.cells #[.int .i64 0, .int .i64 0, .string ⟨#[]⟩, .string ⟨#[]⟩, .int .i64 0, .slice none 0 0] 189))
  have HB := Lib.hid (one_below w (.cells #[.int .i64 0, .int .i64 0, .string ⟨#[]⟩, .string ⟨#[]⟩, .int .i64 0, .slice none 0 0] 189))
  go_enter Tryz.func98, Tryz.ntmps98
  go_wp2_with (first
    | (refine wpList_store_row (P := Tryz.prog) rfl 189 (.tmp 4) (.tmp 7) rfl w.heap.size #[.int .i64 3, .int .i64 0, .string a, .string b, .int .i64 0, .slice none 0 0] rfl rfl _ _ HX.out (by kernel_rfl) rfl (by simp [Value.oneCell']) ?_)
    | fail)
  ((try simp only [Exit.inBlock, Exit.then]); refine bodyPost_ret (results_cell_row isRes _ _ w.heap.size _ _ (0, 0) _ rfl (setRow_at HX.out) Tryz.underlying189 rfl (by kernel_rfl)) rfl ?_)
  exact ⟨rfl, below_setRow HB.out (Nat.le_refl _) _⟩
theorem needRes : (Tryz.f94).results = #[.cell 4 191] := by kernel_rfl
theorem need_any (k : Int) (a : Option Addr) (n c : Nat) (w : World) : Calls Tryz.prog 94 #[.int .i64 k, .slice a n c] w (Ret w (.agg #[.int .i64 k, .int .i64 1, .int .i64 0, .int .i64 0, .string ⟨#[]⟩, .string ⟨#[]⟩, .int .i64 0, .slice a n c])) := by
  have HX := Lib.hid (heap_alloc_new w (.cells #[.int .i64 0, .int .i64 0, .int .i64 0, .int .i64 0, .string ⟨#[]⟩, .string ⟨#[]⟩, .int .i64 0, .slice none 0 0] 191))
  have HB := Lib.hid (one_below w (.cells #[.int .i64 0, .int .i64 0, .int .i64 0, .int .i64 0, .string ⟨#[]⟩, .string ⟨#[]⟩, .int .i64 0, .slice none 0 0] 191))
  go_enter Tryz.func94, Tryz.ntmps94
  go_wp2_with (first
    | (refine wpList_store_row (P := Tryz.prog) rfl 191 (.tmp 4) (.tmp 8) rfl w.heap.size #[.int .i64 k, .int .i64 1, .int .i64 0, .int .i64 0, .string ⟨#[]⟩, .string ⟨#[]⟩, .int .i64 0, .slice a n c] rfl rfl _ _ HX.out (by kernel_rfl) rfl (by simp [Value.oneCell']) ?_)
    | fail)
  ((try simp only [Exit.inBlock, Exit.then]); refine bodyPost_ret (results_cell_row needRes _ _ w.heap.size _ _ (0, 0) _ rfl (setRow_at HX.out) Tryz.underlying191 rfl (by kernel_rfl)) rfl ?_)
  exact ⟨rfl, below_setRow HB.out (Nat.le_refl _) _⟩
/-- A paper, whatever it says: its fields stand in a row of its own. -/
def DocP (w : World) (k : Int) (num : ByteArray) (m : Nat) (ss : List ByteArray) (e : Ending) (w' : World) : Prop := ∃ (a : Option Addr) (c : Nat), e = .returned (.agg #[.int .i64 k, .string num, .string ⟨#[115]⟩, .slice a m c]) ∧ w'.ownsRow w.heap.size 256 2 (.slice a m c) m (fdCells (fdsN ss m)) ∧ Below w.heap.size w w'
def invS : List ByteArray := [⟨#[115, 101, 108, 108, 101, 114]⟩, ⟨#[115]⟩, ⟨#[98, 117, 121, 101, 114]⟩, ⟨#[121]⟩, ⟨#[99, 117, 114, 114, 101, 110, 99, 121]⟩, ⟨#[85, 83, 68]⟩, ⟨#[115, 117, 109]⟩, ⟨#[53]⟩, ⟨#[102, 114, 111, 109]⟩, ⟨#[]⟩, ⟨#[116, 111]⟩, ⟨#[]⟩, ⟨#[98, 111, 120, 101, 115]⟩, ⟨#[48]⟩, ⟨#[116, 101, 114, 109]⟩, ⟨#[48]⟩]
theorem two_boxes (w : World) (o p : Obj) : Below w.heap.size w ((w.alloc o).alloc p) ∧ ((w.alloc o).alloc p).heap[w.heap.size]? = some o ∧ ((w.alloc o).alloc p).heap[w.heap.size + 1]? = some p := by
  have h1 := heap_alloc_new w o
  have h2 := heap_alloc_new (w.alloc o) p
  have h3 := one_below (w.alloc o) p
  refine ⟨(one_below w o).trans (h3.mono (by simp)), blk h3 (lt_blk h1) h1, ?_⟩
  simpa using h2
theorem invRes : (Tryz.f96).results = #[.cell 2 196] := by kernel_rfl
set_option maxHeartbeats 2000000 in
theorem invoice_any (w : World) : Calls Tryz.prog 96 #[.agg dealC] w (DocP w 0 ⟨#[105, 118, 45, 100]⟩ 8 invS) := by
  obtain ⟨W0, hW0⟩ : ∃ W, W = (w.alloc (.cells dealC 111)).alloc (.cells #[.int .i64 0, .string ⟨#[]⟩, .string ⟨#[]⟩, .slice none 0 0] 196) := ⟨_, rfl⟩
  have h3 := two_boxes w (.cells dealC 111) (.cells #[.int .i64 0, .string ⟨#[]⟩, .string ⟨#[]⟩, .slice none 0 0] 196)
  rw [← hW0] at h3
  have HB0 := Lib.hid h3.1
  have HX0 := Lib.hid h3.2.1
  have HX1 := Lib.hid h3.2.2
  have e0 := hW0.symm
  have hds : dealC.size = 17 := rfl
  clear h3 hW0
  go_enter Tryz.func96, Tryz.ntmps96
  go_wp2_with fail
  (try rw [e0])
  clear e0
  refine Any.region_litL (fun
    | 0 => Any.val (.pointer (some ⟨w.heap.size, 0, none⟩))
    | 1 => Any.val (.string ⟨#[100]⟩)
    | 2 => Any.val (.string ⟨#[105, 118, 45, 100]⟩)
    | 3 => Any.val (.pointer (some ⟨w.heap.size, 1, none⟩))
    | 4 => Any.val (.string ⟨#[115]⟩)
    | 5 => Any.val (.pointer (some ⟨w.heap.size, 1, none⟩))
    | 6 => Any.val (.string ⟨#[115]⟩)
    | 7 => Any.val (.pointer (some ⟨w.heap.size, 2, none⟩))
    | 8 => Any.val (.string ⟨#[121]⟩)
    | 9 => Any.val (.pointer (some ⟨w.heap.size, 9, none⟩))
    | 10 => Any.val (.pointer (some ⟨w.heap.size, 9, none⟩))
    | 11 => Any.val (.string ⟨#[85, 83, 68]⟩)
    | 12 => Any.val (.pointer (some ⟨w.heap.size, 9, none⟩))
    | 13 => Any.val (.pointer (some ⟨w.heap.size, 10, none⟩))
    | 14 => Any.val (.int .i64 5)
    | 15 => Any.val (.string ⟨#[53]⟩)
    | 16 => Any.val (.pointer (some ⟨w.heap.size, 7, none⟩))
    | 17 => Any.val (.string ⟨#[]⟩)
    | 18 => Any.val (.pointer (some ⟨w.heap.size, 8, none⟩))
    | 19 => Any.val (.string ⟨#[]⟩)
    | 20 => Any.val (.pointer (some ⟨w.heap.size, 11, none⟩))
    | 21 => Any.val (.slice none 0 0)
    | 22 => Any.val (.int .i64 0)
    | 23 => Any.val (.string ⟨#[48]⟩)
    | 24 => Any.val (.pointer (some ⟨w.heap.size, 12, none⟩))
    | 25 => Any.val (.int .i64 0)
    | 26 => Any.val (.string ⟨#[48]⟩)
    | 27 => Any.made 9 16 #[.string ⟨#[115, 101, 108, 108, 101, 114]⟩, .string ⟨#[115]⟩, .string ⟨#[98, 117, 121, 101, 114]⟩, .string ⟨#[121]⟩, .string ⟨#[99, 117, 114, 114, 101, 110, 99, 121]⟩, .string ⟨#[85, 83, 68]⟩, .string ⟨#[115, 117, 109]⟩, .string ⟨#[53]⟩, .string ⟨#[102, 114, 111, 109]⟩, .string ⟨#[]⟩, .string ⟨#[116, 111]⟩, .string ⟨#[]⟩, .string ⟨#[98, 111, 120, 101, 115]⟩, .string ⟨#[48]⟩, .string ⟨#[116, 101, 114, 109]⟩, .string ⟨#[48]⟩]
    | 28 => Any.row w.heap.size 256 2 8 (fdCells (fdsN invS 8)) []
    | 29 => Any.built 3 (fun s => #[.int .i64 0, .string ⟨#[105, 118, 45, 100]⟩, .string ⟨#[115]⟩, s]) w.heap.size 256 2 8 (fdCells (fdsN invS 8)) 28
    | _ => Any.idle) 30 _ (by kernel_rfl) rfl rfl rfl (by kernel_rfl) (by kernel_rfl) (by kernel_rfl) ?_ ?_ ?_
  · intro i _
    match i with
    | 0 => exact Any.lasts_val _
    | 1 => exact Any.lasts_val _
    | 2 => exact Any.lasts_val _
    | 3 => exact Any.lasts_val _
    | 4 => exact Any.lasts_val _
    | 5 => exact Any.lasts_val _
    | 6 => exact Any.lasts_val _
    | 7 => exact Any.lasts_val _
    | 8 => exact Any.lasts_val _
    | 9 => exact Any.lasts_val _
    | 10 => exact Any.lasts_val _
    | 11 => exact Any.lasts_val _
    | 12 => exact Any.lasts_val _
    | 13 => exact Any.lasts_val _
    | 14 => exact Any.lasts_val _
    | 15 => exact Any.lasts_val _
    | 16 => exact Any.lasts_val _
    | 17 => exact Any.lasts_val _
    | 18 => exact Any.lasts_val _
    | 19 => exact Any.lasts_val _
    | 20 => exact Any.lasts_val _
    | 21 => exact Any.lasts_val _
    | 22 => exact Any.lasts_val _
    | 23 => exact Any.lasts_val _
    | 24 => exact Any.lasts_val _
    | 25 => exact Any.lasts_val _
    | 26 => exact Any.lasts_val _
    | 27 => exact Any.lasts_made _ _ _
    | 28 => exact Any.lasts_row _ _ _ _ _ _
    | 29 => exact Any.lasts_built _ _ _ _ _ _ _ _
    | n + 30 => exact Any.lasts_idle
  · simp only [List.take_succ_cons, List.take_zero]
    refine ⟨?_, ?_, ?_, ?_, ?_, ?_, ?_, ?_, ?_, ?_, ?_, ?_, ?_, ?_, ?_, ?_, ?_, ?_, ?_, ?_, ?_, ?_, ?_, ?_, ?_, ?_, ?_, ?_, ?_, ?_, trivial⟩
    · refine Any.owes_plain rfl fun ρ wo hs' hb hc' => ?_
      have h1 : ρ (.tmp 1) = .pointer (some ⟨w.heap.size, 0, none⟩) := hs'.old' 1 (by kernel_rfl)
      go_simp
      exact Any.post_val hb rfl rfl
    · refine Any.owes_plain rfl fun ρ wo hs' hb hc' => ?_
      have h3 : ρ (.tmp 3) = .pointer (some ⟨w.heap.size, 0, none⟩) := hs'.new' 3 0 (by kernel_rfl)
      have c0 : wo.cell? ⟨w.heap.size, 0, none⟩ = some (.string ⟨#[100]⟩) := cell_blk (blk hb (lt_blk HX0.out) HX0.out) 0
      go_simp
      exact Any.post_val hb rfl rfl
    · refine Any.owes_plain rfl fun ρ wo hs' hb hc' => ?_
      have h4 : ρ (.tmp 4) = .string ⟨#[100]⟩ := hs'.new' 4 1 (by kernel_rfl)
      go_simp
      exact Any.post_val hb rfl rfl
    · refine Any.owes_plain rfl fun ρ wo hs' hb hc' => ?_
      have h1 : ρ (.tmp 1) = .pointer (some ⟨w.heap.size, 0, none⟩) := hs'.old' 1 (by kernel_rfl)
      go_simp
      exact Any.post_val hb rfl rfl
    · refine Any.owes_plain rfl fun ρ wo hs' hb hc' => ?_
      have h6 : ρ (.tmp 6) = .pointer (some ⟨w.heap.size, 1, none⟩) := hs'.new' 6 3 (by kernel_rfl)
      have c0 : wo.cell? ⟨w.heap.size, 1, none⟩ = some (.string ⟨#[115]⟩) := cell_blk (blk hb (lt_blk HX0.out) HX0.out) 1
      go_simp
      exact Any.post_val hb rfl rfl
    · refine Any.owes_plain rfl fun ρ wo hs' hb hc' => ?_
      have h1 : ρ (.tmp 1) = .pointer (some ⟨w.heap.size, 0, none⟩) := hs'.old' 1 (by kernel_rfl)
      go_simp
      exact Any.post_val hb rfl rfl
    · refine Any.owes_plain rfl fun ρ wo hs' hb hc' => ?_
      have h8 : ρ (.tmp 8) = .pointer (some ⟨w.heap.size, 1, none⟩) := hs'.new' 8 5 (by kernel_rfl)
      have c0 : wo.cell? ⟨w.heap.size, 1, none⟩ = some (.string ⟨#[115]⟩) := cell_blk (blk hb (lt_blk HX0.out) HX0.out) 1
      go_simp
      exact Any.post_val hb rfl rfl
    · refine Any.owes_plain rfl fun ρ wo hs' hb hc' => ?_
      have h1 : ρ (.tmp 1) = .pointer (some ⟨w.heap.size, 0, none⟩) := hs'.old' 1 (by kernel_rfl)
      go_simp
      exact Any.post_val hb rfl rfl
    · refine Any.owes_plain rfl fun ρ wo hs' hb hc' => ?_
      have h10 : ρ (.tmp 10) = .pointer (some ⟨w.heap.size, 2, none⟩) := hs'.new' 10 7 (by kernel_rfl)
      have c0 : wo.cell? ⟨w.heap.size, 2, none⟩ = some (.string ⟨#[121]⟩) := cell_blk (blk hb (lt_blk HX0.out) HX0.out) 2
      go_simp
      exact Any.post_val hb rfl rfl
    · refine Any.owes_plain rfl fun ρ wo hs' hb hc' => ?_
      have h1 : ρ (.tmp 1) = .pointer (some ⟨w.heap.size, 0, none⟩) := hs'.old' 1 (by kernel_rfl)
      go_simp
      exact Any.post_val hb rfl rfl
    · refine Any.owes_plain rfl fun ρ wo hs' hb hc' => ?_
      have h12 : ρ (.tmp 12) = .pointer (some ⟨w.heap.size, 9, none⟩) := hs'.new' 12 9 (by kernel_rfl)
      go_simp
      exact Any.post_val hb rfl rfl
    · refine Any.owes_plain rfl fun ρ wo hs' hb hc' => ?_
      have h13 : ρ (.tmp 13) = .pointer (some ⟨w.heap.size, 9, none⟩) := hs'.new' 13 10 (by kernel_rfl)
      have c0 : wo.cell? ⟨w.heap.size, 9, none⟩ = some (.string ⟨#[85, 83, 68]⟩) := cell_blk (blk hb (lt_blk HX0.out) HX0.out) 9
      go_simp
      exact Any.post_val hb rfl rfl
    · refine Any.owes_plain rfl fun ρ wo hs' hb hc' => ?_
      have h1 : ρ (.tmp 1) = .pointer (some ⟨w.heap.size, 0, none⟩) := hs'.old' 1 (by kernel_rfl)
      go_simp
      exact Any.post_val hb rfl rfl
    · refine Any.owes_plain rfl fun ρ wo hs' hb hc' => ?_
      have h15 : ρ (.tmp 15) = .pointer (some ⟨w.heap.size, 9, none⟩) := hs'.new' 15 12 (by kernel_rfl)
      go_simp
      exact Any.post_val hb rfl rfl
    · refine Any.owes_plain rfl fun ρ wo hs' hb hc' => ?_
      have h16 : ρ (.tmp 16) = .pointer (some ⟨w.heap.size, 10, none⟩) := hs'.new' 16 13 (by kernel_rfl)
      have c0 : wo.cell? ⟨w.heap.size, 10, none⟩ = some (.int .i64 5) := cell_blk (blk hb (lt_blk HX0.out) HX0.out) 10
      go_simp
      exact Any.post_val hb rfl rfl
    · refine Any.owes_plain rfl fun ρ wo hs' hb hc' => ?_
      have h17 : ρ (.tmp 17) = .int .i64 5 := hs'.new' 17 14 (by kernel_rfl)
      have hf := hs'.func 156
      go_simp
      exact (digits_any 5 (by decide) wo).mono fun e w' ⟨he, hb'⟩ => ⟨_, he, Any.post_vals hb rfl rfl hb'⟩
    · refine Any.owes_plain rfl fun ρ wo hs' hb hc' => ?_
      have h1 : ρ (.tmp 1) = .pointer (some ⟨w.heap.size, 0, none⟩) := hs'.old' 1 (by kernel_rfl)
      go_simp
      exact Any.post_val hb rfl rfl
    · refine Any.owes_plain rfl fun ρ wo hs' hb hc' => ?_
      have h19 : ρ (.tmp 19) = .pointer (some ⟨w.heap.size, 7, none⟩) := hs'.new' 19 16 (by kernel_rfl)
      have c0 : wo.cell? ⟨w.heap.size, 7, none⟩ = some (.string ⟨#[]⟩) := cell_blk (blk hb (lt_blk HX0.out) HX0.out) 7
      go_simp
      exact Any.post_val hb rfl rfl
    · refine Any.owes_plain rfl fun ρ wo hs' hb hc' => ?_
      have h1 : ρ (.tmp 1) = .pointer (some ⟨w.heap.size, 0, none⟩) := hs'.old' 1 (by kernel_rfl)
      go_simp
      exact Any.post_val hb rfl rfl
    · refine Any.owes_plain rfl fun ρ wo hs' hb hc' => ?_
      have h21 : ρ (.tmp 21) = .pointer (some ⟨w.heap.size, 8, none⟩) := hs'.new' 21 18 (by kernel_rfl)
      have c0 : wo.cell? ⟨w.heap.size, 8, none⟩ = some (.string ⟨#[]⟩) := cell_blk (blk hb (lt_blk HX0.out) HX0.out) 8
      go_simp
      exact Any.post_val hb rfl rfl
    · refine Any.owes_plain rfl fun ρ wo hs' hb hc' => ?_
      have h1 : ρ (.tmp 1) = .pointer (some ⟨w.heap.size, 0, none⟩) := hs'.old' 1 (by kernel_rfl)
      go_simp
      exact Any.post_val hb rfl rfl
    · refine Any.owes_plain rfl fun ρ wo hs' hb hc' => ?_
      have h23 : ρ (.tmp 23) = .pointer (some ⟨w.heap.size, 11, none⟩) := hs'.new' 23 20 (by kernel_rfl)
      have c0 : wo.cell? ⟨w.heap.size, 11, none⟩ = some (.slice none 0 0) := cell_blk (blk hb (lt_blk HX0.out) HX0.out) 11
      go_simp
      exact Any.post_val hb rfl rfl
    · refine Any.owes_plain rfl fun ρ wo hs' hb hc' => ?_
      have h24 : ρ (.tmp 24) = .slice none 0 0 := hs'.new' 24 21 (by kernel_rfl)
      go_simp
      exact Any.post_val hb rfl rfl
    · refine Any.owes_plain rfl fun ρ wo hs' hb hc' => ?_
      have h25 : ρ (.tmp 25) = .int .i64 0 := hs'.new' 25 22 (by kernel_rfl)
      have hf := hs'.func 157
      go_simp
      exact (count_any 0 (by decide) wo).mono fun e w' ⟨he, hb'⟩ => ⟨_, he, Any.post_vals hb rfl rfl hb'⟩
    · refine Any.owes_plain rfl fun ρ wo hs' hb hc' => ?_
      have h1 : ρ (.tmp 1) = .pointer (some ⟨w.heap.size, 0, none⟩) := hs'.old' 1 (by kernel_rfl)
      go_simp
      exact Any.post_val hb rfl rfl
    · refine Any.owes_plain rfl fun ρ wo hs' hb hc' => ?_
      have h27 : ρ (.tmp 27) = .pointer (some ⟨w.heap.size, 12, none⟩) := hs'.new' 27 24 (by kernel_rfl)
      have c0 : wo.cell? ⟨w.heap.size, 12, none⟩ = some (.int .i64 0) := cell_blk (blk hb (lt_blk HX0.out) HX0.out) 12
      go_simp
      exact Any.post_val hb rfl rfl
    · refine Any.owes_plain rfl fun ρ wo hs' hb hc' => ?_
      have h28 : ρ (.tmp 28) = .int .i64 0 := hs'.new' 28 25 (by kernel_rfl)
      have hf := hs'.func 157
      go_simp
      exact (count_any 0 (by decide) wo).mono fun e w' ⟨he, hb'⟩ => ⟨_, he, Any.post_vals hb rfl rfl hb'⟩
    · refine Any.owes_plain rfl fun ρ wo hs' hb hc' => ?_
      have h9 : ρ (.tmp 9) = .string ⟨#[115]⟩ := hs'.new' 9 6 (by kernel_rfl)
      have h11 : ρ (.tmp 11) = .string ⟨#[121]⟩ := hs'.new' 11 8 (by kernel_rfl)
      have h14 : ρ (.tmp 14) = .string ⟨#[85, 83, 68]⟩ := hs'.new' 14 11 (by kernel_rfl)
      have h18 : ρ (.tmp 18) = .string ⟨#[53]⟩ := hs'.new' 18 15 (by kernel_rfl)
      have h20 : ρ (.tmp 20) = .string ⟨#[]⟩ := hs'.new' 20 17 (by kernel_rfl)
      have h22 : ρ (.tmp 22) = .string ⟨#[]⟩ := hs'.new' 22 19 (by kernel_rfl)
      have h26 : ρ (.tmp 26) = .string ⟨#[48]⟩ := hs'.new' 26 23 (by kernel_rfl)
      have h29 : ρ (.tmp 29) = .string ⟨#[48]⟩ := hs'.new' 29 26 (by kernel_rfl)
      go_simp
      exact Any.post_new hb ⟨_, rfl, heap_alloc_new _ _⟩ (one_below _ _) (by intro b hb'; obtain rfl : wo.heap.size = b := Option.some.inj hb'; exact Nat.le_refl _)
    · refine Any.owes_plain rfl fun ρ wo hs' hb hc' => ?_
      have hf := hs'.func 155
      have hsl := made_know (ss := invS) (hs'.new' 30 27 (by kernel_rfl)) rfl rfl
      go_simp
      exact (fields_any 8 invS _ wo hsl rfl (by decide)).mono fun e w' ⟨v, he, ho, hb'⟩ => ⟨v, he, Any.post_new hb (ownsRow_base ho (Nat.le_trans HB0.out.size hb.size)) hb' (fun b h => (ho.lt b h).1)⟩
    · refine Any.owes_plain rfl fun ρ wo hs' hb hc' => ?_
      have h5 : ρ (.tmp 5) = .string ⟨#[105, 118, 45, 100]⟩ := hs'.new' 5 2 (by kernel_rfl)
      have h7 : ρ (.tmp 7) = .string ⟨#[115]⟩ := hs'.new' 7 4 (by kernel_rfl)
      have hr : wo.ownsRow w.heap.size 256 2 (ρ (.tmp 31)) 8 (fdCells (fdsN invS 8)) := hs'.new' 31 28 (by kernel_rfl)
      refine Exists.elim (ownsRow_shape hr) fun aJ hJ => Exists.elim hJ fun cJ eJ => ?_
      rw [eJ] at hr
      go_simp
      exact Any.post_built (k := 3) (cells := fun s => #[.int .i64 0, .string ⟨#[105, 118, 45, 100]⟩, .string ⟨#[115]⟩, s]) (j := 28) hb rfl ⟨_, rfl⟩ rfl eJ rfl hr
  intro vals w5 hb hk
  have hq : (Any.built 3 (fun s => #[.int .i64 0, .string ⟨#[105, 118, 45, 100]⟩, .string ⟨#[115]⟩, s]) w.heap.size 256 2 8 (fdCells (fdsN invS 8)) 28).know (vals 29) w5 := hk 29 (by kernel_rfl)
  have h29 : vals 29 = .agg #[.int .i64 0, .string ⟨#[105, 118, 45, 100]⟩, .string ⟨#[115]⟩, Any.aggAt 3 (vals 29)] := by
    obtain ⟨s, q1, -, q2⟩ := hq
    rw [q1]; rfl
  have hs : w5.ownsRow w.heap.size 256 2 (Any.aggAt 3 (vals 29)) 8 (fdCells (fdsN invS 8)) := by
    obtain ⟨s, q1, -, q2⟩ := hq
    rw [q1]; exact q2
  have HS5 := Lib.hid hs
  have HX15 := Lib.hid (blk hb (lt_blk HX1.out) HX1.out)
  have HB5 := Lib.hid (HB0.out.trans (hb.mono HB0.out.size))
  clear hk hb hs hq
  simp only [List.take_succ_cons, List.take_zero, Any.putAll]
  go_frame
  simp only [Nat.zero_add, Nat.reduceAdd]
  generalize Any.aggAt 3 (vals 29) = s at h29 HS5
  rw [h29]
  clear h29
  refine Stg.ok_store_row rfl rfl HX15.out (by kernel_rfl) rfl (by obtain ⟨a, c, rfl⟩ := ownsRow_shape HS5.out; simp [Value.oneCell']) ?_
  have he := ownsRow_shape HS5.out
  obtain ⟨aJ, cJ, rfl⟩ := he
  have HF := Lib.hid (setRow_at (cs := #[.int .i64 0, .string ⟨#[105, 118, 45, 100]⟩, .string ⟨#[115]⟩, .slice aJ 8 cJ]) HX15.out)
  go_wp2_with fail
  ((try simp only [Exit.inBlock, Exit.then]); refine bodyPost_ret (results_cell_row invRes _ _ (w.heap.size + 1) _ _ (0, 0) _ rfl HF.out Tryz.underlying196 rfl (by kernel_rfl)) rfl ?_)
  exact ⟨aJ, cJ, rfl, Any.ownsRow_same HS5.out (fun b hb => setRow_other (fun e => row_off HS5.out HX15.out (by decide) (e ▸ hb))), below_setRow HB5.out (by omega) _⟩
def orgS : List ByteArray := [⟨#[115, 101, 108, 108, 101, 114]⟩, ⟨#[115]⟩, ⟨#[99, 111, 117, 110, 116, 114, 121]⟩, ⟨#[]⟩, ⟨#[98, 111, 120, 101, 115]⟩, ⟨#[48]⟩]
theorem orgRes : (Tryz.f100).results = #[.cell 4 196] := by kernel_rfl
set_option maxHeartbeats 2000000 in
theorem origin_any (w : World) : Calls Tryz.prog 100 #[.agg dealC, .string ⟨#[]⟩] w (DocP w 4 ⟨#[111, 114, 45, 100]⟩ 3 orgS) := by
  obtain ⟨W0, hW0⟩ : ∃ W, W = (w.alloc (.cells dealC 111)).alloc (.cells #[.int .i64 0, .string ⟨#[]⟩, .string ⟨#[]⟩, .slice none 0 0] 196) := ⟨_, rfl⟩
  have h3 := two_boxes w (.cells dealC 111) (.cells #[.int .i64 0, .string ⟨#[]⟩, .string ⟨#[]⟩, .slice none 0 0] 196)
  rw [← hW0] at h3
  have HB0 := Lib.hid h3.1
  have HX0 := Lib.hid h3.2.1
  have HX1 := Lib.hid h3.2.2
  have e0 := hW0.symm
  have hds : dealC.size = 17 := rfl
  clear h3 hW0
  go_enter Tryz.func100, Tryz.ntmps100
  go_wp2_with fail
  (try rw [e0])
  clear e0
  refine Any.region_litL (fun
    | 0 => Any.val (.pointer (some ⟨w.heap.size, 0, none⟩))
    | 1 => Any.val (.string ⟨#[100]⟩)
    | 2 => Any.val (.string ⟨#[111, 114, 45, 100]⟩)
    | 3 => Any.val (.pointer (some ⟨w.heap.size, 1, none⟩))
    | 4 => Any.val (.string ⟨#[115]⟩)
    | 5 => Any.val (.pointer (some ⟨w.heap.size, 1, none⟩))
    | 6 => Any.val (.string ⟨#[115]⟩)
    | 7 => Any.val (.string ⟨#[]⟩)
    | 8 => Any.val (.pointer (some ⟨w.heap.size, 11, none⟩))
    | 9 => Any.val (.slice none 0 0)
    | 10 => Any.val (.int .i64 0)
    | 11 => Any.val (.string ⟨#[48]⟩)
    | 12 => Any.made 9 6 #[.string ⟨#[115, 101, 108, 108, 101, 114]⟩, .string ⟨#[115]⟩, .string ⟨#[99, 111, 117, 110, 116, 114, 121]⟩, .string ⟨#[]⟩, .string ⟨#[98, 111, 120, 101, 115]⟩, .string ⟨#[48]⟩]
    | 13 => Any.row w.heap.size 256 2 3 (fdCells (fdsN orgS 3)) []
    | 14 => Any.built 3 (fun s => #[.int .i64 4, .string ⟨#[111, 114, 45, 100]⟩, .string ⟨#[115]⟩, s]) w.heap.size 256 2 3 (fdCells (fdsN orgS 3)) 13
    | _ => Any.idle) 15 _ (by kernel_rfl) rfl rfl rfl (by kernel_rfl) (by kernel_rfl) (by kernel_rfl) ?_ ?_ ?_
  · intro i _
    match i with
    | 0 => exact Any.lasts_val _
    | 1 => exact Any.lasts_val _
    | 2 => exact Any.lasts_val _
    | 3 => exact Any.lasts_val _
    | 4 => exact Any.lasts_val _
    | 5 => exact Any.lasts_val _
    | 6 => exact Any.lasts_val _
    | 7 => exact Any.lasts_val _
    | 8 => exact Any.lasts_val _
    | 9 => exact Any.lasts_val _
    | 10 => exact Any.lasts_val _
    | 11 => exact Any.lasts_val _
    | 12 => exact Any.lasts_made _ _ _
    | 13 => exact Any.lasts_row _ _ _ _ _ _
    | 14 => exact Any.lasts_built _ _ _ _ _ _ _ _
    | n + 15 => exact Any.lasts_idle
  · simp only [List.take_succ_cons, List.take_zero]
    refine ⟨?_, ?_, ?_, ?_, ?_, ?_, ?_, ?_, ?_, ?_, ?_, ?_, ?_, ?_, ?_, trivial⟩
    · refine Any.owes_plain rfl fun ρ wo hs' hb hc' => ?_
      have h2 : ρ (.tmp 2) = .pointer (some ⟨w.heap.size, 0, none⟩) := hs'.old' 2 (by kernel_rfl)
      go_simp
      exact Any.post_val hb rfl rfl
    · refine Any.owes_plain rfl fun ρ wo hs' hb hc' => ?_
      have h5 : ρ (.tmp 5) = .pointer (some ⟨w.heap.size, 0, none⟩) := hs'.new' 5 0 (by kernel_rfl)
      have c0 : wo.cell? ⟨w.heap.size, 0, none⟩ = some (.string ⟨#[100]⟩) := cell_blk (blk hb (lt_blk HX0.out) HX0.out) 0
      go_simp
      exact Any.post_val hb rfl rfl
    · refine Any.owes_plain rfl fun ρ wo hs' hb hc' => ?_
      have h6 : ρ (.tmp 6) = .string ⟨#[100]⟩ := hs'.new' 6 1 (by kernel_rfl)
      go_simp
      exact Any.post_val hb rfl rfl
    · refine Any.owes_plain rfl fun ρ wo hs' hb hc' => ?_
      have h2 : ρ (.tmp 2) = .pointer (some ⟨w.heap.size, 0, none⟩) := hs'.old' 2 (by kernel_rfl)
      go_simp
      exact Any.post_val hb rfl rfl
    · refine Any.owes_plain rfl fun ρ wo hs' hb hc' => ?_
      have h8 : ρ (.tmp 8) = .pointer (some ⟨w.heap.size, 1, none⟩) := hs'.new' 8 3 (by kernel_rfl)
      have c0 : wo.cell? ⟨w.heap.size, 1, none⟩ = some (.string ⟨#[115]⟩) := cell_blk (blk hb (lt_blk HX0.out) HX0.out) 1
      go_simp
      exact Any.post_val hb rfl rfl
    · refine Any.owes_plain rfl fun ρ wo hs' hb hc' => ?_
      have h2 : ρ (.tmp 2) = .pointer (some ⟨w.heap.size, 0, none⟩) := hs'.old' 2 (by kernel_rfl)
      go_simp
      exact Any.post_val hb rfl rfl
    · refine Any.owes_plain rfl fun ρ wo hs' hb hc' => ?_
      have h10 : ρ (.tmp 10) = .pointer (some ⟨w.heap.size, 1, none⟩) := hs'.new' 10 5 (by kernel_rfl)
      have c0 : wo.cell? ⟨w.heap.size, 1, none⟩ = some (.string ⟨#[115]⟩) := cell_blk (blk hb (lt_blk HX0.out) HX0.out) 1
      go_simp
      exact Any.post_val hb rfl rfl
    · refine Any.owes_plain rfl fun ρ wo hs' hb hc' => ?_
      have h1 : ρ (.tmp 1) = .string ⟨#[]⟩ := hs'.old' 1 (by kernel_rfl)
      exact Any.ok_move (Any.post_val hb rfl h1)
    · refine Any.owes_plain rfl fun ρ wo hs' hb hc' => ?_
      have h2 : ρ (.tmp 2) = .pointer (some ⟨w.heap.size, 0, none⟩) := hs'.old' 2 (by kernel_rfl)
      go_simp
      exact Any.post_val hb rfl rfl
    · refine Any.owes_plain rfl fun ρ wo hs' hb hc' => ?_
      have h13 : ρ (.tmp 13) = .pointer (some ⟨w.heap.size, 11, none⟩) := hs'.new' 13 8 (by kernel_rfl)
      have c0 : wo.cell? ⟨w.heap.size, 11, none⟩ = some (.slice none 0 0) := cell_blk (blk hb (lt_blk HX0.out) HX0.out) 11
      go_simp
      exact Any.post_val hb rfl rfl
    · refine Any.owes_plain rfl fun ρ wo hs' hb hc' => ?_
      have h14 : ρ (.tmp 14) = .slice none 0 0 := hs'.new' 14 9 (by kernel_rfl)
      go_simp
      exact Any.post_val hb rfl rfl
    · refine Any.owes_plain rfl fun ρ wo hs' hb hc' => ?_
      have h15 : ρ (.tmp 15) = .int .i64 0 := hs'.new' 15 10 (by kernel_rfl)
      have hf := hs'.func 157
      go_simp
      exact (count_any 0 (by decide) wo).mono fun e w' ⟨he, hb'⟩ => ⟨_, he, Any.post_vals hb rfl rfl hb'⟩
    · refine Any.owes_plain rfl fun ρ wo hs' hb hc' => ?_
      have h11 : ρ (.tmp 11) = .string ⟨#[115]⟩ := hs'.new' 11 6 (by kernel_rfl)
      have h12 : ρ (.tmp 12) = .string ⟨#[]⟩ := hs'.new' 12 7 (by kernel_rfl)
      have h16 : ρ (.tmp 16) = .string ⟨#[48]⟩ := hs'.new' 16 11 (by kernel_rfl)
      go_simp
      exact Any.post_new hb ⟨_, rfl, heap_alloc_new _ _⟩ (one_below _ _) (by intro b hb'; obtain rfl : wo.heap.size = b := Option.some.inj hb'; exact Nat.le_refl _)
    · refine Any.owes_plain rfl fun ρ wo hs' hb hc' => ?_
      have hf := hs'.func 155
      have hsl := made_know (ss := orgS) (hs'.new' 17 12 (by kernel_rfl)) rfl rfl
      go_simp
      exact (fields_any 3 orgS _ wo hsl rfl (by decide)).mono fun e w' ⟨v, he, ho, hb'⟩ => ⟨v, he, Any.post_new hb (ownsRow_base ho (Nat.le_trans HB0.out.size hb.size)) hb' (fun b h => (ho.lt b h).1)⟩
    · refine Any.owes_plain rfl fun ρ wo hs' hb hc' => ?_
      have h7 : ρ (.tmp 7) = .string ⟨#[111, 114, 45, 100]⟩ := hs'.new' 7 2 (by kernel_rfl)
      have h9 : ρ (.tmp 9) = .string ⟨#[115]⟩ := hs'.new' 9 4 (by kernel_rfl)
      have hr : wo.ownsRow w.heap.size 256 2 (ρ (.tmp 18)) 3 (fdCells (fdsN orgS 3)) := hs'.new' 18 13 (by kernel_rfl)
      refine Exists.elim (ownsRow_shape hr) fun aJ hJ => Exists.elim hJ fun cJ eJ => ?_
      rw [eJ] at hr
      go_simp
      exact Any.post_built (k := 3) (cells := fun s => #[.int .i64 4, .string ⟨#[111, 114, 45, 100]⟩, .string ⟨#[115]⟩, s]) (j := 13) hb rfl ⟨_, rfl⟩ rfl eJ rfl hr
  intro vals w5 hb hk
  have hq : (Any.built 3 (fun s => #[.int .i64 4, .string ⟨#[111, 114, 45, 100]⟩, .string ⟨#[115]⟩, s]) w.heap.size 256 2 3 (fdCells (fdsN orgS 3)) 13).know (vals 14) w5 := hk 14 (by kernel_rfl)
  have h29 : vals 14 = .agg #[.int .i64 4, .string ⟨#[111, 114, 45, 100]⟩, .string ⟨#[115]⟩, Any.aggAt 3 (vals 14)] := by
    obtain ⟨s, q1, -, q2⟩ := hq
    rw [q1]; rfl
  have hs : w5.ownsRow w.heap.size 256 2 (Any.aggAt 3 (vals 14)) 3 (fdCells (fdsN orgS 3)) := by
    obtain ⟨s, q1, -, q2⟩ := hq
    rw [q1]; exact q2
  have HS5 := Lib.hid hs
  have HX15 := Lib.hid (blk hb (lt_blk HX1.out) HX1.out)
  have HB5 := Lib.hid (HB0.out.trans (hb.mono HB0.out.size))
  clear hk hb hs hq
  simp only [List.take_succ_cons, List.take_zero, Any.putAll]
  go_frame
  simp only [Nat.zero_add, Nat.reduceAdd]
  generalize Any.aggAt 3 (vals 14) = s at h29 HS5
  rw [h29]
  clear h29
  refine Stg.ok_store_row rfl rfl HX15.out (by kernel_rfl) rfl (by obtain ⟨a, c, rfl⟩ := ownsRow_shape HS5.out; simp [Value.oneCell']) ?_
  have he := ownsRow_shape HS5.out
  obtain ⟨aJ, cJ, rfl⟩ := he
  have HF := Lib.hid (setRow_at (cs := #[.int .i64 4, .string ⟨#[111, 114, 45, 100]⟩, .string ⟨#[115]⟩, .slice aJ 3 cJ]) HX15.out)
  go_wp2_with fail
  ((try simp only [Exit.inBlock, Exit.then]); refine bodyPost_ret (results_cell_row orgRes _ _ (w.heap.size + 1) _ _ (0, 0) _ rfl HF.out Tryz.underlying196 rfl (by kernel_rfl)) rfl ?_)
  exact ⟨aJ, cJ, rfl, Any.ownsRow_same HS5.out (fun b hb => setRow_other (fun e => row_off HS5.out HX15.out (by decide) (e ▸ hb))), below_setRow HB5.out (by omega) _⟩
end Go.Proofs.YtbigoifpfkdkjaaGreatDoor.Sc
