/- The contract of allow.Drawn: whether draws may be, and their sum. The contract of allow.behind: the draws with one more, in a slice of the call's own. The contract of allow.May: the code, by the document's rules. The contracts of the reference of layer 30: its bounds, the most and the least. -/
import Derived.Test.YtbigoifpfkdkjaaGreatDoorTe01
import Derived.Test.YtbigoifpfkdkjaaGreatDoorTe02
import Derived.Test.YtbigoifpfkdkjaaGreatDoorTe10
import Derived.Test.YtbigoifpfkdkjaaGreatDoorTe07
namespace Go.Proofs.YtbigoifpfkdkjaaGreatDoor.Sc
open Go Go.RowKit Go.ChangeShapes Go.WideShapes Go.ChangeAt
set_option maxRecDepth 100000

/-- A draw. -/
structure Dr where
  day : Int
  amt : Int

def Dr.row (d : Dr) : List Value := [.int .i64 d.day, .int .i64 d.amt]

def drOk (ahead : Int) (d : Dr) : Bool := decide (1 ≤ d.amt) && decide (d.amt ≤ 1099511627776) && decide (ahead ≤ d.day) && decide (d.day ≤ 1048576)
/-- May they be, behind a day? -/
def drawsFrom (ahead : Int) : List Dr → Bool
  | [] => true
  | d :: r => drOk ahead d && drawsFrom d.day r
def dsum : List Dr → Int
  | [] => 0
  | d :: r => d.amt + dsum r
def draws (l : List Dr) : Bool := decide (l.length ≤ 4096) && drawsFrom 0 l

theorem dsum_append (a b : List Dr) : dsum (a ++ b) = dsum a + dsum b := by
  induction a with
  | nil => simp [dsum]
  | cons d r ih => simp only [List.cons_append, dsum, ih]; omega
theorem dsum_take_succ (l : List Dr) (k : Nat) (h : k < l.length) : dsum (l.take (k + 1)) = dsum (l.take k) + l[k].amt := by
  rw [List.take_succ_eq_append_getElem h, dsum_append]; simp [dsum]
theorem drawsFrom_drop (l : List Dr) (k : Nat) (a : Int) (h : k < l.length) : drawsFrom a (l.drop k) = (drOk a l[k] && drawsFrom l[k].day (l.drop (k + 1))) := by
  rw [List.drop_eq_getElem_cons h]; rfl
theorem drawsFrom_bd (l : List Dr) : ∀ a, drawsFrom a l = true → 0 ≤ dsum l ∧ dsum l ≤ 1099511627776 * l.length := by
  induction l with
  | nil => intro a _; simp [dsum]
  | cons d r ih =>
    intro a h
    simp only [drawsFrom, drOk, Bool.and_eq_true, decide_eq_true_eq] at h
    obtain ⟨⟨⟨⟨h1, h2⟩, h3⟩, h4⟩, h5⟩ := h
    have := ih _ h5
    simp only [dsum, List.length_cons]
    omega

def drawnR (l : List Dr) : Value := .tuple #[.int .i64 (if draws l then dsum l else 0), .bool (draws l)]
def RetD (w : World) (l : List Dr) : Ending → World → Prop := Ret w (drawnR l)
theorem retD_no {w w' : World} {l : List Dr} (h : draws l = false) (hb : Below w.heap.size w w') : RetD w l (.returned (.tuple #[.int .i64 0, .bool false])) w' := ⟨by simp [drawnR, h], hb⟩
theorem retD_yes {w w' : World} {l : List Dr} {s : Int} (h : draws l = true) (hs : s = dsum l) (hb : Below w.heap.size w w') : RetD w l (.returned (.tuple #[.int .i64 s, .bool true])) w' := ⟨by simp [drawnR, h, hs], hb⟩

set_option maxHeartbeats 1000000 in
theorem Drawn_any (l : List Dr) (v : Value) (w : World) (hs : Sl w 2 v (l.map Dr.row)) : Calls Tryz.prog 48 #[v] w (RetD w l) := by
  have hml : l.length ≤ 9223372036854775807 := by have := hs.len_le; simpa [maxLen] using this
  rcases hs with ⟨hx, a, c, rfl, _⟩ | ⟨b, off, cap, hv, hb, hcap, hmx, hc⟩
  · obtain rfl : l = [] := by simpa using hx
    go_enter Tryz.func48, Tryz.ntmps48
    go_wp2
    refine wp_loop_once ?_
    go_wp2
    go_ret2
    exact retD_yes rfl rfl (Below.refl _ _)
  · rw [List.length_map] at hv hcap
    subst hv
    by_cases hl : l.length ≤ 4096
    · have HC := Lib.hid hc
      have hl' : ¬ 4096 < (l.length : Int) := by omega
      clear hc hmx
      go_enter Tryz.func48, Tryz.ntmps48
      go_wp2
      go_loopw [4, 5, 13] (fun s a i wr => ∃ (k : Nat) (A : Int), k ≤ l.length ∧ i = .int .i64 k ∧ s = .int .i64 (dsum (l.take k)) ∧ a = .int .i64 A ∧ drawsFrom 0 l = drawsFrom A (l.drop k) ∧ 0 ≤ dsum (l.take k) ∧ dsum (l.take k) ≤ 1099511627776 * k ∧ Below w.heap.size w wr)
        (fun _ _ i _ => l.length - (intOf i).toNat)
      case atStart => exact ⟨0, 0, Nat.zero_le _, rfl, rfl, rfl, rfl, by simp [dsum], by simp [dsum], Below.refl _ _⟩
      case round =>
        obtain ⟨k, A, hk, rfl, rfl, rfl, hfrom, hS0, hS1, hbel⟩ := hrel
        by_cases hlt : k < l.length
        · have hr := HC.out k l[k].row (by simp [hlt])
          have d0 := (hbel.cell (p := ⟨b, off + k * 2, none⟩) hb).trans (hr 0 _ rfl)
          have d1 := (hbel.cell (p := ⟨b, off + k * 2 + 1, none⟩) hb).trans (hr 1 _ rfl)
          have HS := Lib.hid (dsum_take_succ l k hlt)
          rw [drawsFrom_drop l k A hlt] at hfrom
          have HF := Lib.hid hfrom
          clear hr hfrom
          generalize l[k] = d at *
          generalize dsum (l.take k) = S at *
          obtain ⟨day, amt⟩ := d
          simp only at d0 d1
          have hbel2 := (hbel.alloc (o := .cells #[.int .i64 day, .int .i64 amt] 42) hbel.size)
          go_wp2
          all_goals first
            | (go_roundw
               case rel => exact ⟨k + 1, day, by omega, by go_num, by rw [HS.out], rfl, by rw [HF.out]; simp [drOk]; omega, by rw [HS.out]; simp only; omega, by rw [HS.out]; simp only; omega, hbel2⟩
               case measure => simp [intOf]; omega)
            | (go_ret2
               exact retD_no (by simp only [draws]; rw [HF.out]; simp [drOk]; omega) hbel2)
        · have hkl : l.length ≤ k := by omega
          have HF := Lib.hid hfrom
          clear hfrom
          have HT : Hid (dsum (l.take k) = dsum l) := Lib.hid (by rw [List.take_of_length_le hkl])
          go_wp2
          go_ret2
          exact retD_yes (by simp only [draws]; rw [HF.out, List.drop_eq_nil_of_le hkl]; simp [drawsFrom, hl]) HT.out hbel
    · have hl' : 4096 < (l.length : Int) := by omega
      go_enter Tryz.func48, Tryz.ntmps48
      go_wp2
      go_ret2
      exact retD_no (by simp [draws, hl]) (Below.refl _ _)


/-- An argument that is a slice of draws. -/
theorem open_draws {H : Type} {enc : TypeId × Value → H} {W : World} {base : Nat} {v : Value} {d : DataW H} {p : List MemPlace} (hv : Value.okWide Tryz.prog W .any base 40 v)
    (h : DataW.Trod enc Tryz.prog W 0 (fun _ => true) true 40 v d p) : ∃ l : List Dr, Sl W 2 v (l.map Dr.row) := by
  obtain ⟨a, len, cap, rfl⟩ := okWide_slice Tryz.underlying40 hv
  obtain ⟨fuel, hf⟩ := h
  obtain ⟨rows, hs, _, hg⟩ := open_sl (sz := 2) (Good := fun cs => ∃ d : Dr, cs = d.row) Tryz.underlying40 (by kernel_rfl) rfl hf (fun n cs y hy => by
    obtain ⟨hl, m, hg⟩ := row_fields Tryz.underlying42 (by kernel_rfl) (by kernel_rfl) hy
    match cs, hl with
    | [c0, c1], _ =>
      obtain ⟨z0, g0⟩ := hg 0 _ rfl c0 rfl
      obtain ⟨z1, g1⟩ := hg 1 _ rfl c1 rfl
      obtain ⟨a, ha, _⟩ := DataW.trod_int Tryz.underlying3 g0
      obtain ⟨b, hb, _⟩ := DataW.trod_int Tryz.underlying2 g1
      obtain rfl : c0 = .int .i64 a := by simpa using ha
      obtain rfl : c1 = .int .i64 b := by simpa using hb
      exact ⟨⟨a, b⟩, rfl⟩) (by decide)
  obtain ⟨l, rfl⟩ := choose_map (f := Dr.row) rows hg
  exact ⟨l, hs⟩

end Go.Proofs.YtbigoifpfkdkjaaGreatDoor.Sc
namespace Go.Proofs.YtbigoifpfkdkjaaGreatDoor.Sc
open Go Go.RowKit Go.ChangeShapes Go.WideShapes Go.ChangeAt
set_option maxRecDepth 100000

theorem infoDr : (Tryz.prog.info? 42).map (fun i => (i.zero, i.size, i.bytes)) = some (some (.agg #[.int .i64 0, .int .i64 0]), 2, 16) := by kernel_rfl

/-- The cells of draws. -/
def drCells (l : List Dr) : List Value := l.flatMap Dr.row
theorem drCells_append (a b : List Dr) : drCells (a ++ b) = drCells a ++ drCells b := by simp [drCells]
theorem drCells_length (l : List Dr) : (drCells l).length = l.length * 2 := by
  induction l with
  | nil => rfl
  | cons d r ih => simp only [drCells, List.flatMap_cons, List.length_append, List.length_cons] at *; rw [ih]; simp [Dr.row]; omega

theorem drCells_one (l : List Dr) : ∀ u ∈ drCells l, u.oneCell' = true := by
  intro u hu
  simp only [drCells, List.mem_flatMap, Dr.row, List.mem_cons, List.not_mem_nil, or_false] at hu
  obtain ⟨d, _, rfl | rfl⟩ := hu <;> rfl

set_option maxHeartbeats 1000000 in
theorem behind_any (l : List Dr) (d : Dr) (v : Value) (w : World) (hs : Sl w 2 v (l.map Dr.row)) (hlen : l.length ≤ 1000000) :
    Calls Tryz.prog 49 #[v, .agg #[.int .i64 d.day, .int .i64 d.amt]] w (RetRow w 42 2 (l.length + 1) (drCells (l ++ [d]))) := by
  obtain ⟨i0, hi, hz, hsz, hby⟩ := info_parts infoDr
  have hshape : ∃ a c, v = .slice a l.length c := by simpa using hs.shape
  have HSH := Lib.hid hshape
  have hs0 := hs
  clear hs
  clear hshape
  go_enter Tryz.func49, Tryz.ntmps49
  go_wp2_with fail
  refine Any.region_lit (fun
    | 0 => Any.val v
    | 1 => Any.val (.int .i64 l.length)
    | 2 => Any.val (.int .i64 (l.length + 1))
    | 3 => Any.row (w.heap.size + 1) 42 2 0 [] []
    | 4 => Any.val v
    | 5 => Any.row (w.heap.size + 1) 42 2 l.length (drCells l) [3]
    | 6 => Any.val (.agg #[.int .i64 d.day, .int .i64 d.amt])
    | 7 => Any.made 42 1 #[.int .i64 d.day, .int .i64 d.amt]
    | 8 => Any.row (w.heap.size + 1) 42 2 (l.length + 1) (drCells (l ++ [d])) [5]
    | 9 => Any.row (w.heap.size + 1) 42 2 (l.length + 1) (drCells (l ++ [d])) [8]
    | _ => Any.idle) (by kernel_rfl) (by kernel_rfl) (by kernel_rfl) ?_ ?_ ?_
  · intro i _
    match i with
    | 0 | 1 | 2 | 4 | 6 => exact Any.lasts_val _
    | 3 | 5 | 8 | 9 => exact Any.lasts_row _ _ _ _ _ _
    | 7 => exact Any.lasts_made _ _ _
    | n + 10 => exact Any.lasts_idle
  · refine ⟨?_, ?_, ?_, ?_, ?_, ?_, ?_, ?_, ?_, ?_, trivial⟩
    · refine Any.owes_plain rfl fun ρ W hs hb hc => ?_
      have h0 : ρ (.tmp 0) = v := hs.old' 0 (by kernel_rfl)
      exact Any.ok_move (Any.post_val hb rfl h0)
    · refine Any.owes_plain rfl fun ρ W hs hb hc => ?_
      have h0 : ρ (.tmp 5) = v := hs.new' 5 0 (by kernel_rfl)
      obtain ⟨a, c, hv⟩ := HSH.out
      rw [hv] at h0
      go_simp
      exact Any.post_val hb rfl rfl
    · refine Any.owes_plain rfl fun ρ W hs hb hc => ?_
      have h0 : ρ (.tmp 6) = .int .i64 l.length := hs.new' 6 1 (by kernel_rfl)
      go_simp
      exact Any.post_val hb rfl (wrap_in (by omega))
    · refine Any.owes_plain rfl fun ρ W hs hb hc => ?_
      have h0 : ρ (.tmp 7) = .int .i64 ((l.length + 1 : Nat) : Int) := hs.new' 7 2 (by kernel_rfl)
      have hbase : w.heap.size + 1 ≤ W.heap.size := by have := hb.size; simpa using this
      exact Any.ok_make_own Tryz.underlying40 hi hz hsz h0 (hc _) (by rw [hby]; omega) (by simp only [maxLen]; omega) hbase fun w' h1 h2 =>
        Any.post_new hb h1 ((Below.refl _ _).grown h2 (Nat.le_refl _) (by simp)) (by intro b hb'; simp [Any.row, Value.ownBlock] at hb'; omega)
    · refine Any.owes_plain rfl fun ρ W hs hb hc => ?_
      have h0 : ρ (.tmp 0) = v := hs.old' 0 (by kernel_rfl)
      exact Any.ok_move (Any.post_val hb rfl h0)
    · refine Any.owes_plain rfl fun ρ W hs hb hc => ?_
      have h8 : W.ownsRow (w.heap.size + 1) 42 2 (ρ (.tmp 8)) 0 [] := hs.new' 8 3 (by kernel_rfl)
      have h9 : ρ (.tmp 9) = v := hs.new' 9 4 (by kernel_rfl)
      have hsrc : Src W 2 (ρ (.tmp 9)) l.length (drCells l) := by
        rw [h9]
        have := (hs0.below (((one_below w _).drew).trans (hb.mono (B' := w.heap.size) (by simp))) (Nat.le_refl _)).src (by intro r hr; obtain ⟨d, _, rfl⟩ := List.mem_map.1 hr; rfl) (by decide)
        rw [List.length_map] at this
        exact this
      have hbase : w.heap.size + 1 ≤ W.heap.size := by have := hb.size; simpa using this
      refine Any.ok_append_own Tryz.underlying40 hi hz hsz hby rfl (by decide) h8 hsrc (drCells_one l) (by simp only [maxLen]; omega) (by omega) hbase fun v' w' h1 h2 h3 => ?_
      rw [List.nil_append, Nat.zero_add] at h1
      exact Any.post_take hb h1 h2 rfl ⟨_, _, _, rfl⟩ rfl rfl (by simp) h3 (fun b hb => (h8.lt b hb).1)
    · refine Any.owes_plain rfl fun ρ W hs hb hc => ?_
      have h0 : ρ (.tmp 3) = .pointer (some ⟨w.heap.size, 0, none⟩) := hs.old' 3 (by kernel_rfl)
      have c0 : W.cell? ⟨w.heap.size, 0, none⟩ = some (.int .i64 d.day) := (hb.cell (p := ⟨w.heap.size, 0, none⟩) (by simp)).trans (cell_new w _ _ _)
      have c1 : W.cell? ⟨w.heap.size, 1, none⟩ = some (.int .i64 d.amt) := (hb.cell (p := ⟨w.heap.size, 1, none⟩) (by simp)).trans (cell_new w _ _ _)
      go_simp
      exact Any.post_val hb rfl rfl
    · refine Any.owes_plain rfl fun ρ W hs hb hc => ?_
      have h0 : ρ (.tmp 11) = .agg #[.int .i64 d.day, .int .i64 d.amt] := hs.new' 11 6 (by kernel_rfl)
      go_simp
      exact Any.post_new hb ⟨_, rfl, heap_alloc_new _ _⟩ (one_below _ _) (by intro b hb'; obtain rfl : W.heap.size = b := Option.some.inj hb'; exact Nat.le_refl _)
    · refine Any.owes_plain rfl fun ρ W hs hb hc => ?_
      have h8 : W.ownsRow (w.heap.size + 1) 42 2 (ρ (.tmp 10)) l.length (drCells l) := hs.new' 10 5 (by kernel_rfl)
      obtain ⟨g, hg, hgb⟩ : ∃ b, ρ (.tmp 12) = .slice (some ⟨b, 0, none⟩) 1 1 ∧ W.heap[b]? = some (.cells #[.int .i64 d.day, .int .i64 d.amt] 42 (0, 0)) := hs.new' 12 7 (by kernel_rfl)
      have hsrc : Src W 2 (ρ (.tmp 12)) 1 d.row := by
        rw [hg]
        exact src_block hgb rfl
      have hbase : w.heap.size + 1 ≤ W.heap.size := by have := hb.size; simpa using this
      refine Any.ok_append_own Tryz.underlying40 hi hz hsz hby rfl (by decide) h8 hsrc (by intro u hu; simp [Dr.row] at hu; rcases hu with rfl | rfl <;> rfl) (by simp only [maxLen]; omega) (by omega) hbase fun v' w' h1 h2 h3 => ?_
      rw [show drCells l ++ d.row = drCells (l ++ [d]) from by simp [drCells]] at h1
      exact Any.post_take hb h1 h2 rfl ⟨_, _, _, rfl⟩ rfl rfl (by simp) h3 (fun b hb => (h8.lt b hb).1)
    · refine Any.owes_plain rfl fun ρ W hs hb hc => ?_
      have h8 : W.ownsRow (w.heap.size + 1) 42 2 (ρ (.tmp 13)) (l.length + 1) (drCells (l ++ [d])) := hs.new' 13 8 (by kernel_rfl)
      exact Any.ok_assign (Any.post_pass hb rfl ⟨_, rfl⟩ rfl rfl h8)
  · intro vals w' hb hk ha
    have h9 : w'.ownsRow (w.heap.size + 1) 42 2 (vals 9) (l.length + 1) (drCells (l ++ [d])) := hk 9 (by kernel_rfl)
    have hb' := below_new hb
    clear hk ha hb
    go_simp
    go_wp2
    go_ret
    exact retRow h9 (by omega) hb'
end Go.Proofs.YtbigoifpfkdkjaaGreatDoor.Sc
namespace Go.Proofs.YtbigoifpfkdkjaaGreatDoor.Sc
open Go Go.RowKit Go.ChangeShapes Go.WideShapes Go.ChangeAt
set_option maxRecDepth 100000

theorem grown_set (w : World) (b o : Nat) (u : Value) : w.grownBy (w.setCell ⟨b, o, none⟩ u) (some b) :=
  ⟨rfl, rfl, rfl, by simp [World.setCell], fun k _ hne => Below.heap_setCell w _ u k (fun e => hne (by rw [e]))⟩
theorem blk_set {w : World} {b : Nat} {x : Value} {t : TypeId} {fr : Nat × Nat} (h : w.heap[b]? = some (.cells #[x] t fr)) (u : Value) : (w.setCell ⟨b, 0, none⟩ u).heap[b]? = some (.cells #[u] t fr) := by
  simp [World.setCell, Array.getElem?_modify, h]
theorem drCells_flat (l : List Dr) : drCells l = (l.map Dr.row).flatten := by simp [drCells, List.flatMap]
theorem dr_rows (l : List Dr) : ∀ r ∈ l.map Dr.row, r.length = 2 := by intro r hr; obtain ⟨d, _, rfl⟩ := List.mem_map.1 hr; rfl
theorem own_draws {w : World} {B n : Nat} {v : Value} {l : List Dr} (h : w.ownsRow B 42 2 v n (drCells l)) (hn : n = l.length) : Sl w 2 v (l.map Dr.row) := by
  rw [drCells_flat] at h
  exact own_sl h (by rw [List.length_map]; exact hn) (dr_rows l)

theorem ok_load_cr {dst : Option Tmp} {t : TypeId} {pos : String} {after : Array Edge} {gd : Option (Nat × Bool)} {ρ : Operand → Value} {w : World} {R : Value → World → Prop} {x : Operand} (g : Nat) (c : Cr) (t' : TypeId)
    (hx : ρ x = .pointer (some ⟨g, 0, none⟩)) (hg : w.heap[g]? = some (.cells c.cells t' (0, 0))) (h : R (.agg c.cells) w) : Any.OpOk Tryz.prog ⟨dst, .load 30 x, t, pos, after, gd⟩ ρ w R := by
  obtain ⟨fs, hu⟩ := cr_under
  have hr := run_loadVar_row (P := Tryz.prog) w g t' 30 c.cells (0, 0) _ hg hu rfl (by rw [cr_info]; rfl)
  unfold Any.OpOk
  simp only [execOp, hx, Instr.loadAt, Instr.sureAddr, Sem.run_bind, Sem.run_pure, Result.andThen_ok, hr]
  exact h

/-- Is something wrong with the arguments of May? -/
def mayArg (c : Cr) (l : List Dr) (d : Dr) : Bool := !(c.bnd && draws (l ++ [d]))

theorem bounded_yes (c : Cr) (h : c.bnd = true) (w : World) : Calls Tryz.prog 39 #[.agg c.cells] w (RetB w true) := h ▸ bounded_any c w
theorem bounded_no (c : Cr) (h : c.bnd = false) (w : World) : Calls Tryz.prog 39 #[.agg c.cells] w (RetB w false) := h ▸ bounded_any c w

/-- What the first check leaves behind. -/
def Arg1 (w : World) (c : Cr) (l : List Dr) (d : Dr) (bs : Nat) (e : Ending) (w' : World) : Prop :=
  e = .returned (.bool (mayArg c l d)) ∧ w.grownBy w' (some bs) ∧ (mayArg c l d = false → w'.heap[bs]? = some (.cells #[.int .i64 (dsum (l ++ [d]))] 2 (0, 0)))
theorem arg1_yes {w w' : World} {c : Cr} {l : List Dr} {d : Dr} {bs : Nat} (h : mayArg c l d = true) (hg : w.grownBy w' (some bs)) : Arg1 w c l d bs (.returned (.bool true)) w' := ⟨by rw [h], hg, fun h' => by rw [h] at h'; cases h'⟩

set_option maxHeartbeats 2000000 in
set_option maxRecDepth 10000 in
theorem may1 (c : Cr) (l : List Dr) (d : Dr) (v : Value) (x : Int) (bc bl bd bs : Nat) (w : World) (hc : w.heap[bc]? = some (.cells c.cells 30 (0, 0))) (hl : w.heap[bl]? = some (.cells #[v] 40 (0, 0)))
    (hd : w.heap[bd]? = some (.cells #[.int .i64 d.day, .int .i64 d.amt] 42 (0, 0))) (hs : w.heap[bs]? = some (.cells #[.int .i64 x] 2 (0, 0))) (hsl : Sl w 2 v (l.map Dr.row)) :
    Calls Tryz.prog 47 #[.pointer (some ⟨bc, 0, none⟩), .pointer (some ⟨bl, 0, none⟩), .pointer (some ⟨bd, 0, none⟩), .pointer (some ⟨bs, 0, none⟩)] w (Arg1 w c l d bs) := by
  have hml : l.length ≤ 9223372036854775807 := by have := hsl.len_le; simpa [maxLen] using this
  cases hb : c.bnd
  · have hm : mayArg c l d = true := by simp [mayArg, hb]
    have HB := Lib.hid (fun w => bounded_no c hb w)
    have HM := Lib.hid hm
    clear hb hm
    go_enter Tryz.func47, Tryz.ntmps47
    go_wp2_with (first | (refine load_cr (.tmp 0) bc c _ rfl rfl hc ?_) | fail)
    refine (HB.out _).mono ?_
    rintro e w1 ⟨rfl, hb1⟩
    go_wp2_with fail
    go_ret
    exact arg1_yes HM.out (grown_of_below hb1 _)
  · have HB := Lib.hid (fun w => bounded_yes c hb w)
    obtain ⟨a, k, rfl⟩ : ∃ a k, v = .slice a l.length k := by simpa using hsl.shape
    by_cases hfull : 4096 ≤ l.length
    · have hm : mayArg c l d = true := by
        simp only [mayArg, draws, List.length_append, List.length_cons, List.length_nil]
        rw [decide_eq_false (by omega)]
        simp
      have HM := Lib.hid hm
      have hf' : (4096 : Int) ≤ (l.length : Int) := by omega
      clear hb hm hfull
      go_enter Tryz.func47, Tryz.ntmps47
      go_wp2_with (first | (refine load_cr (.tmp 0) bc c _ rfl rfl hc ?_) | fail)
      refine (HB.out _).mono ?_
      rintro e w1 ⟨rfl, hb1⟩
      have c1 := cell_blk (blk hb1 (lt_blk hl) hl) 0
      simp only [List.getElem?_toArray, List.getElem?_cons_zero] at c1
      go_wp2_with fail
      go_ret
      exact arg1_yes HM.out (grown_of_below hb1 _)
    · have hm : mayArg c l d = !draws (l ++ [d]) := by simp [mayArg, hb]
      have HM := Lib.hid hm
      have hf' : (decide ((4096 : Int) ≤ (l.length : Int))) = false := by simp; omega
      have HCAP := Lib.hid (show l.length ≤ 1000000 from by omega)
      clear hb hm hfull
      go_enter Tryz.func47, Tryz.ntmps47
      go_wp2_with (first | (refine load_cr (.tmp 0) bc c _ rfl rfl hc ?_) | fail)
      refine (HB.out _).mono ?_
      rintro e w1 ⟨rfl, hb1⟩
      have c1 := cell_blk (blk hb1 (lt_blk hl) hl) 0
      have d0 := cell_blk (blk hb1 (lt_blk hd) hd) 0
      have d1 := cell_blk (blk hb1 (lt_blk hd) hd) 1
      simp only [List.getElem?_toArray, List.getElem?_cons_zero, List.getElem?_cons_succ] at c1 d0 d1
      go_wp2_with fail
      refine (behind_any l d _ _ (hsl.below hb1 (Nat.le_refl _)) HCAP.out).mono ?_
      rintro e w2 ⟨v2, rfl, hrow, hb2⟩
      go_wp2_with fail
      refine (Drawn_any (l ++ [d]) _ _ (own_draws hrow (by simp))).mono ?_
      rintro e w3 ⟨rfl, hb3⟩
      have hb13 := below_then (below_then hb1 hb2) hb3
      have hs3 := blk hb13 (lt_blk hs) hs
      have s0 := cell_blk hs3 0
      have f0 := free_blk hs3 0
      simp only [List.getElem?_toArray, List.getElem?_cons_zero] at s0
      have HS3 := Lib.hid hs3
      clear c1 d0 d1 hs3
      simp only [drawnR]
      cases hdr : draws (l ++ [d])
      · go_wp2_with fail
        go_ret
        refine arg1_yes (by rw [HM.out, hdr]; rfl) ?_
        exact grown_then (grown_of_below hb13 _) (grown_set _ _ _ _)
      · go_wp2_with fail
        go_ret
        refine ⟨by rw [HM.out, hdr]; rfl, grown_then (grown_of_below hb13 _) (grown_set _ _ _ _), fun _ => ?_⟩
        exact blk_set HS3.out _


theorem may2 (c : Cr) (d : Dr) (bc bd : Nat) (w : World) (hc : w.heap[bc]? = some (.cells c.cells 30 (0, 0))) (hd : w.heap[bd]? = some (.cells #[.int .i64 d.day, .int .i64 d.amt] 42 (0, 0))) :
    Calls Tryz.prog 50 #[.pointer (some ⟨bd, 0, none⟩), .pointer (some ⟨bc, 0, none⟩)] w (RetB w (decide (c.expiry < d.day))) := by
  have d0 := cell_blk hd 0
  have c12 := cell_blk hc 12
  simp only [List.getElem?_toArray, List.getElem?_cons_zero] at d0
  rw [Cr.cell12] at c12
  clear hc hd
  go_enter Tryz.func50, Tryz.ntmps50
  go_wp2
  go_ret
  exact ⟨rfl, Below.refl _ _⟩

theorem may3 (c : Cr) (v : Value) (a : Option Addr) (n k : Nat) (hv : v = .slice a n k) (bc bl : Nat) (w : World) (hc : w.heap[bc]? = some (.cells c.cells 30 (0, 0))) (hl : w.heap[bl]? = some (.cells #[v] 40 (0, 0))) :
    Calls Tryz.prog 51 #[.pointer (some ⟨bc, 0, none⟩), .pointer (some ⟨bl, 0, none⟩)] w (RetB w (!c.part && decide (0 < n))) := by
  subst hv
  have l0 := cell_blk hl 0
  have c15 := cell_blk hc 15
  simp only [List.getElem?_toArray, List.getElem?_cons_zero] at l0
  rw [Cr.cell15] at c15
  go_enter Tryz.func51, Tryz.ntmps51
  go_wp2
  all_goals
    go_ret
    exact retB (by simp [*]) (Below.refl _ _)

/-- Reads and quiet calls in whatever order: the class of worlds in which a region's reads are met. -/
def Cls (w : World) (w' : World) : Prop := ∃ x : { x : World // Below w.heap.size w x }, w' = x.1

theorem may4 (c : Cr) (S : Int) (bc bs : Nat) (w : World) (hbd : Bnd c) (hc : w.heap[bc]? = some (.cells c.cells 30 (0, 0))) (hs : w.heap[bs]? = some (.cells #[.int .i64 S] 2 (0, 0))) :
    Calls Tryz.prog 52 #[.pointer (some ⟨bs, 0, none⟩), .pointer (some ⟨bc, 0, none⟩)] w (RetB w (decide (c.most < S))) := by
  have HM := Lib.hid (fun w => most_any c w hbd)
  clear hbd
  go_enter Tryz.func52, Tryz.ntmps52
  go_wp2_with fail
  refine Any.region_lit (fun
    | 0 => Any.val (.int .i64 S)
    | 1 => Any.val (.agg c.cells)
    | 2 => Any.val (.int .i64 c.most)
    | 3 => Any.val (.bool (decide (c.most < S)))
    | 4 => Any.val (.bool (decide (c.most < S)))
    | _ => Any.idle) (by kernel_rfl) (by kernel_rfl) (by kernel_rfl) ?_ ?_ ?_
  · intro i _
    match i with
    | 0 | 1 | 2 | 3 | 4 => exact Any.lasts_val _
    | n + 5 => exact Any.lasts_idle
  · refine ⟨?_, ?_, ?_, ?_, ?_, trivial⟩
    · refine Any.owes_plain rfl fun ρ W hs' hb hc' => ?_
      have h0 : ρ (.tmp 0) = .pointer (some ⟨bs, 0, none⟩) := hs'.old' 0 (by kernel_rfl)
      have c0 := cell_blk (blk hb (lt_blk hs) hs) 0
      simp only [List.getElem?_toArray, List.getElem?_cons_zero] at c0
      go_simp
      exact Any.post_val hb rfl rfl
    · refine Any.owes_plain rfl fun ρ W hs' hb hc' => ?_
      have h0 : ρ (.tmp 1) = .pointer (some ⟨bc, 0, none⟩) := hs'.old' 1 (by kernel_rfl)
      exact ok_load_cr bc c _ h0 (blk hb (lt_blk hc) hc) (Any.post_val hb rfl rfl)
    · refine Any.owes_plain rfl fun ρ W hs' hb hc' => ?_
      have h0 : ρ (.tmp 4) = .agg c.cells := hs'.new' 4 1 (by kernel_rfl)
      have hf := hs'.func 40
      go_simp
      exact (HM.out _).mono fun e w' ⟨he, hb'⟩ => ⟨_, he, Any.post_vals hb rfl rfl hb'⟩
    · refine Any.owes_plain rfl fun ρ W hs' hb hc' => ?_
      have h0 : ρ (.tmp 3) = .int .i64 S := hs'.new' 3 0 (by kernel_rfl)
      have h1 : ρ (.tmp 5) = .int .i64 c.most := hs'.new' 5 2 (by kernel_rfl)
      go_simp
      exact Any.post_val hb rfl rfl
    · refine Any.owes_plain rfl fun ρ W hs' hb hc' => ?_
      exact Any.ok_assign (Any.post_val hb rfl (hs'.new' 6 3 (by kernel_rfl)))
  · intro vals w' hb hk _
    have h4 : vals 4 = .bool (decide (c.most < S)) := hk 4 (by kernel_rfl)
    clear hk
    go_simp
    go_wp2
    go_ret
    exact ⟨rfl, hb⟩


theorem may5 (c : Cr) (d : Dr) (bc bd : Nat) (w : World) (hbd : Bnd c) (hc : w.heap[bc]? = some (.cells c.cells 30 (0, 0))) (hd : w.heap[bd]? = some (.cells #[.int .i64 d.day, .int .i64 d.amt] 42 (0, 0))) :
    Calls Tryz.prog 53 #[.pointer (some ⟨bc, 0, none⟩), .pointer (some ⟨bd, 0, none⟩)] w (RetB w (!c.part && decide (d.amt < c.least))) := by
  have HM := Lib.hid (fun w => least_any c w hbd)
  clear hbd
  go_enter Tryz.func53, Tryz.ntmps53
  go_wp2_with fail
  refine Any.region_lit (fun
    | 0 => Any.val (.pointer (some ⟨bc, 15, none⟩))
    | 1 => Any.val (.bool c.part)
    | 2 => Any.val (.bool (!c.part))
    | 3 => Any.val (.bool (!c.part))
    | 4 => Any.val (if (!c.part) = true then .pointer (some ⟨bd, 1, none⟩) else undef)
    | 5 => Any.val (if (!c.part) = true then .int .i64 d.amt else undef)
    | 6 => Any.val (if (!c.part) = true then .agg c.cells else undef)
    | 7 => Any.val (if (!c.part) = true then .int .i64 c.least else undef)
    | 8 => Any.val (if (!c.part) = true then .bool (decide (d.amt < c.least)) else undef)
    | 9 => Any.val (.bool (!c.part && decide (d.amt < c.least)))
    | 10 => Any.val (.bool (!c.part && decide (d.amt < c.least)))
    | _ => Any.idle) (by kernel_rfl) (by kernel_rfl) (by kernel_rfl) ?_ ?_ ?_
  · intro i _
    match i with
    | 0 | 1 | 2 | 3 | 4 | 5 | 6 | 7 | 8 | 9 | 10 => exact Any.lasts_val _
    | n + 11 => exact Any.lasts_idle
  · refine ⟨?_, ?_, ?_, ?_, ?_, ?_, ?_, ?_, ?_, ?_, ?_, trivial⟩
    · refine Any.owes_plain rfl fun ρ W hs' hb hc' => ?_
      have h0 : ρ (.tmp 0) = .pointer (some ⟨bc, 0, none⟩) := hs'.old' 0 (by kernel_rfl)
      go_simp
      exact Any.post_val hb rfl rfl
    · refine Any.owes_plain rfl fun ρ W hs' hb hc' => ?_
      have h0 : ρ (.tmp 3) = .pointer (some ⟨bc, 15, none⟩) := hs'.new' 3 0 (by kernel_rfl)
      have c0 := cell_blk (blk hb (lt_blk hc) hc) 15
      rw [Cr.cell15] at c0
      go_simp
      exact Any.post_val hb rfl rfl
    · refine Any.owes_plain rfl fun ρ W hs' hb hc' => ?_
      have h0 : ρ (.tmp 4) = .bool c.part := hs'.new' 4 1 (by kernel_rfl)
      go_simp
      exact Any.post_val hb rfl rfl
    · refine Any.owes_plain rfl fun ρ W hs' hb hc' => ?_
      exact Any.ok_move (Any.post_val hb rfl (hs'.new' 5 2 (by kernel_rfl)))
    · refine Any.owes_guard rfl rfl (by kernel_rfl) rfl rfl fun hp ρ W hs' hb hc' => ?_
      have h0 : ρ (.tmp 1) = .pointer (some ⟨bd, 0, none⟩) := hs'.old' 1 (by kernel_rfl)
      go_simp
      exact Any.is_mk rfl
    · refine Any.owes_guard rfl rfl (by kernel_rfl) rfl rfl fun hp ρ W hs' hb hc' => ?_
      have h0 : ρ (.tmp 7) = if (!c.part) = true then .pointer (some ⟨bd, 1, none⟩) else undef := hs'.new' 7 4 (by kernel_rfl)
      rw [if_pos hp] at h0
      have c1 := cell_blk (blk hb (lt_blk hd) hd) 1
      simp only [List.getElem?_toArray, List.getElem?_cons_zero, List.getElem?_cons_succ] at c1
      go_simp
      exact Any.is_mk rfl
    · refine Any.owes_guard rfl rfl (by kernel_rfl) rfl rfl fun hp ρ W hs' hb hc' => ?_
      have h0 : ρ (.tmp 0) = .pointer (some ⟨bc, 0, none⟩) := hs'.old' 0 (by kernel_rfl)
      exact ok_load_cr bc c _ h0 (blk hb (lt_blk hc) hc) (Any.is_mk rfl)
    · refine Any.owes_guard rfl rfl (by kernel_rfl) rfl rfl fun hp ρ W hs' hb hc' => ?_
      have h0 : ρ (.tmp 9) = if (!c.part) = true then .agg c.cells else undef := hs'.new' 9 6 (by kernel_rfl)
      rw [if_pos hp] at h0
      have hf := hs'.func 54
      go_simp
      exact (HM.out _).mono fun e w' ⟨he, hb'⟩ => ⟨_, he, Any.is_below rfl hb'⟩
    · refine Any.owes_guard rfl rfl (by kernel_rfl) rfl rfl fun hp ρ W hs' hb hc' => ?_
      have h0 : ρ (.tmp 8) = if (!c.part) = true then .int .i64 d.amt else undef := hs'.new' 8 5 (by kernel_rfl)
      have h1 : ρ (.tmp 10) = if (!c.part) = true then .int .i64 c.least else undef := hs'.new' 10 7 (by kernel_rfl)
      rw [if_pos hp] at h0 h1
      go_simp
      exact Any.is_mk rfl
    · refine Any.owes_plain rfl fun ρ W hs' hb hc' => ?_
      have h0 : ρ (.tmp 6) = .bool (!c.part) := hs'.new' 6 3 (by kernel_rfl)
      have h1 : ρ (.tmp 11) = if (!c.part) = true then .bool (decide (d.amt < c.least)) else undef := hs'.new' 11 8 (by kernel_rfl)
      have h2 := hc' (.bool false)
      refine Any.ok_pick h0 (Any.post_val hb rfl ?_)
      rw [h1, h2]
      cases c.part <;> rfl
    · refine Any.owes_plain rfl fun ρ W hs' hb hc' => ?_
      exact Any.ok_assign (Any.post_val hb rfl (hs'.new' 12 9 (by kernel_rfl)))
  · intro vals w' hb hk _
    have h4 : vals 10 = .bool (!c.part && decide (d.amt < c.least)) := hk 10 (by kernel_rfl)
    clear hk
    go_simp
    go_wp2
    go_ret
    exact ⟨rfl, hb⟩

/-- The document's code. -/
def mayCode (c : Cr) (l : List Dr) (d : Dr) : Int :=
  if mayArg c l d then 1 else if c.expiry < d.day then 11 else if c.part = false ∧ 0 < l.length then 9
  else if c.most < dsum (l ++ [d]) then 10 else if c.part = false ∧ d.amt < c.least then 3 else 0

theorem go1 (caps : Array Value) (w : World) : (callFunc 47 caps).run Tryz.prog w = .ok (.enter 47 caps) w := by kernel_rfl
theorem go2 (caps : Array Value) (w : World) : (callFunc 50 caps).run Tryz.prog w = .ok (.enter 50 caps) w := by kernel_rfl
theorem go3 (caps : Array Value) (w : World) : (callFunc 51 caps).run Tryz.prog w = .ok (.enter 51 caps) w := by kernel_rfl
theorem go4 (caps : Array Value) (w : World) : (callFunc 52 caps).run Tryz.prog w = .ok (.enter 52 caps) w := by kernel_rfl
theorem go5 (caps : Array Value) (w : World) : (callFunc 53 caps).run Tryz.prog w = .ok (.enter 53 caps) w := by kernel_rfl

def mayFn : Nat → FuncId
  | 0 => 47
  | 1 => 50
  | 2 => 51
  | 3 => 52
  | _ => 53
def mayNo : Nat → Int
  | 0 => 1
  | 1 => 11
  | 2 => 9
  | 3 => 10
  | _ => 3
/-- The boxes lie at n, n + 1, n + 2, n + 3: the credit, the draws, the draw, the sum. -/
def mayCap (n : Nat) : Nat → Array Value
  | 0 => #[.pointer (some ⟨n, 0, none⟩), .pointer (some ⟨n + 1, 0, none⟩), .pointer (some ⟨n + 2, 0, none⟩), .pointer (some ⟨n + 3, 0, none⟩)]
  | 1 => #[.pointer (some ⟨n + 2, 0, none⟩), .pointer (some ⟨n, 0, none⟩)]
  | 2 => #[.pointer (some ⟨n, 0, none⟩), .pointer (some ⟨n + 1, 0, none⟩)]
  | 3 => #[.pointer (some ⟨n + 3, 0, none⟩), .pointer (some ⟨n, 0, none⟩)]
  | _ => #[.pointer (some ⟨n, 0, none⟩), .pointer (some ⟨n + 2, 0, none⟩)]
def mayIf (c : Cr) (l : List Dr) (d : Dr) : Nat → Bool
  | 0 => mayArg c l d
  | 1 => decide (c.expiry < d.day)
  | 2 => !c.part && decide (0 < l.length)
  | 3 => decide (c.most < dsum (l ++ [d]))
  | _ => !c.part && decide (d.amt < c.least)

/-- The checks' cells. -/
def mayCells (n : Nat) : Array Value := #[.int .i64 1, .func (.func 47) #[] (mayCap n 0), .int .i64 11, .func (.func 50) #[] (mayCap n 1),
  .int .i64 9, .func (.func 51) #[] (mayCap n 2), .int .i64 10, .func (.func 52) #[] (mayCap n 3), .int .i64 3, .func (.func 53) #[] (mayCap n 4)]

theorem may_code (c : Cr) (l : List Dr) (d : Dr) : firstFrom mayNo (mayIf c l d) 5 0 = mayCode c l d := by
  simp [firstFrom, mayNo, mayIf, mayCode]

/-- How the world stands ahead of check number i. -/
structure MayInv (w : World) (c : Cr) (l : List Dr) (d : Dr) (v : Value) (i : Nat) (w' : World) : Prop where
  below : Below w.heap.size w w'
  hc : w'.heap[w.heap.size]? = some (.cells c.cells 30 (0, 0))
  hl : w'.heap[w.heap.size + 1]? = some (.cells #[v] 40 (0, 0))
  hd : w'.heap[w.heap.size + 2]? = some (.cells #[.int .i64 d.day, .int .i64 d.amt] 42 (0, 0))
  hs : ∃ x, w'.heap[w.heap.size + 3]? = some (.cells #[.int .i64 x] 2 (0, 0)) ∧ (i ≠ 0 → x = dsum (l ++ [d]))
  hf : w'.heap[w.heap.size + 4]? = some (.cells (mayCells w.heap.size) 129 (0, 0))
  ok : i ≠ 0 → mayArg c l d = false

theorem MayInv.keep {w : World} {c : Cr} {l : List Dr} {d : Dr} {v : Value} {i : Nat} {w1 w2 : World} (h : MayInv w c l d v i w1) (hb : Below w1.heap.size w1 w2) : MayInv w c l d v i w2 := by
  obtain ⟨h1, h2, h3, h4, ⟨x, h5, h6⟩, h7, h8⟩ := h
  exact ⟨below_then h1 hb, blk hb (lt_blk h2) h2, blk hb (lt_blk h3) h3, blk hb (lt_blk h4) h4, ⟨x, blk hb (lt_blk h5) h5, h6⟩, blk hb (lt_blk h7) h7, h8⟩
theorem MayInv.next {w : World} {c : Cr} {l : List Dr} {d : Dr} {v : Value} {i : Nat} {w1 w2 : World} (h : MayInv w c l d v i w1) (hi : i ≠ 0) (hb : Below w1.heap.size w1 w2) : MayInv w c l d v (i + 1) w2 := by
  obtain ⟨h1, h2, h3, h4, ⟨x, h5, h6⟩, h7, h8⟩ := h.keep hb
  exact ⟨h1, h2, h3, h4, ⟨x, h5, fun _ => h6 hi⟩, h7, fun _ => h8 hi⟩

theorem top_same {w1 w2 : World} {b : Nat} (hg : w1.grownBy w2 (some b)) (hb : b + 1 < w1.heap.size) : w2.cell? ⟨w1.heap.size - 1, 0, none⟩ = w1.cell? ⟨w1.heap.size - 1, 0, none⟩ := by
  refine World.cell?_of_block (a := ⟨w1.heap.size - 1, 0, none⟩) (hg.block (w1.heap.size - 1) (by omega) fun e => ?_)
  have := Option.some.inj e
  omega
theorem five_new (w : World) (o0 o1 o2 o3 o4 : Obj) : (((((w.alloc o0).alloc o1).alloc o2).alloc o3).alloc o4).heap[w.heap.size]? = some o0 ∧ (((((w.alloc o0).alloc o1).alloc o2).alloc o3).alloc o4).heap[w.heap.size + 1]? = some o1 ∧
    (((((w.alloc o0).alloc o1).alloc o2).alloc o3).alloc o4).heap[w.heap.size + 2]? = some o2 ∧ (((((w.alloc o0).alloc o1).alloc o2).alloc o3).alloc o4).heap[w.heap.size + 3]? = some o3 ∧ (((((w.alloc o0).alloc o1).alloc o2).alloc o3).alloc o4).heap[w.heap.size + 4]? = some o4 := by
  have old : ∀ (w : World) (o x : Obj) (k : Nat), w.heap[k]? = some x → (w.alloc o).heap[k]? = some x := fun w o x k h => (heap_alloc_old w o (lt_blk h)).trans h
  have new : ∀ (w : World) (o : Obj) (k : Nat), k = w.heap.size → (w.alloc o).heap[k]? = some o := fun w o k h => h ▸ heap_alloc_new w o
  exact ⟨old _ _ _ _ (old _ _ _ _ (old _ _ _ _ (old _ _ _ _ (new _ _ _ rfl)))), old _ _ _ _ (old _ _ _ _ (old _ _ _ _ (new _ _ _ (by simp)))), old _ _ _ _ (old _ _ _ _ (new _ _ _ (by simp))), old _ _ _ _ (new _ _ _ (by simp)), new _ _ _ (by simp)⟩


set_option maxHeartbeats 1000000 in
theorem May_any (c : Cr) (l : List Dr) (d : Dr) (v : Value) (w : World) (hsl : Sl w 2 v (l.map Dr.row)) :
    Calls Tryz.prog 10 #[.agg c.cells, v, .agg #[.int .i64 d.day, .int .i64 d.amt]] w (Ret w (.int .i64 (mayCode c l d))) := by
  obtain ⟨a, k, hv⟩ : ∃ a k, v = .slice a l.length k := by simpa using hsl.shape
  have HV := Lib.hid hv
  clear hv
  have F := fun (w5 : World) (hI : MayInv w c l d v 0 w5) => first_gen 5 (by decide) (w.heap.size + 4) mayNo mayFn (mayCap w.heap.size) (mayIf c l d) (MayInv w c l d v) (Below w.heap.size w) w5 hI
    (by
      intro i hi w'
      match i, hi with
      | 0, _ => exact go1 _ _
      | 1, _ => exact go2 _ _
      | 2, _ => exact go3 _ _
      | 3, _ => exact go4 _ _
      | 4, _ => exact go5 _ _)
    (by
      intro i w' hi h
      have q0 := cell_blk h.hf (2 * i)
      have q1 := cell_blk h.hf (2 * i + 1)
      rw [q0, q1]
      match i, hi with
      | 0, _ => exact ⟨rfl, rfl⟩
      | 1, _ => exact ⟨rfl, rfl⟩
      | 2, _ => exact ⟨rfl, rfl⟩
      | 3, _ => exact ⟨rfl, rfl⟩
      | 4, _ => exact ⟨rfl, rfl⟩)
    (by intro i w' o h; exact h.keep (one_below _ _))
    (by
      intro i w' hi h
      have hlt := lt_blk h.hf
      match i, hi with
      | 0, _ =>
        obtain ⟨x, hs, _⟩ := h.hs
        refine (may1 c l d v x _ _ _ _ w' h.hc h.hl h.hd hs (hsl.below h.below (Nat.le_refl _))).mono fun e w'' ⟨he, hg, hsum⟩ => ⟨he, fun hm => ?_, fun _ => ?_, top_same hg (by omega)⟩
        · have hb := h.below.grown hg h.below.size (fun k hk => by obtain rfl := Option.some.inj hk; omega)
          refine ⟨hb, ?_, ?_, ?_, ⟨_, hsum hm, fun _ => rfl⟩, ?_, fun _ => hm⟩
          · exact (hg.block _ (lt_blk h.hc) (fun e => by have := Option.some.inj e; omega)).trans h.hc
          · exact (hg.block _ (lt_blk h.hl) (fun e => by have := Option.some.inj e; omega)).trans h.hl
          · exact (hg.block _ (lt_blk h.hd) (fun e => by have := Option.some.inj e; omega)).trans h.hd
          · exact (hg.block _ (lt_blk h.hf) (fun e => by have := Option.some.inj e; omega)).trans h.hf
        · exact h.below.grown hg h.below.size (fun k hk => by obtain rfl := Option.some.inj hk; omega)
      | 1, _ =>
        exact (may2 c d _ _ w' h.hc h.hd).mono fun e w'' ⟨he, hb⟩ => ⟨he, fun _ => h.next (by decide) hb, fun _ => below_then h.below hb, World.cell?_of_block (a := ⟨w'.heap.size - 1, 0, none⟩) (hb.block _ (by simp; omega))⟩
      | 2, _ =>
        exact (may3 c v a l.length k HV.out _ _ w' h.hc h.hl).mono fun e w'' ⟨he, hb⟩ => ⟨he, fun _ => h.next (by decide) hb, fun _ => below_then h.below hb, World.cell?_of_block (a := ⟨w'.heap.size - 1, 0, none⟩) (hb.block _ (by simp; omega))⟩
      | 3, _ =>
        obtain ⟨x, hs, hx⟩ := h.hs
        have hx := hx (by decide)
        subst hx
        have hm := h.ok (by decide)
        have hbd : Bnd c := (bnd_iff c).1 (by simp only [mayArg, Bool.not_eq_false', Bool.and_eq_true] at hm; exact hm.1)
        exact (may4 c _ _ _ w' hbd h.hc hs).mono fun e w'' ⟨he, hb⟩ => ⟨he, fun _ => h.next (by decide) hb, fun _ => below_then h.below hb, World.cell?_of_block (a := ⟨w'.heap.size - 1, 0, none⟩) (hb.block _ (by simp; omega))⟩
      | 4, _ =>
        have hm := h.ok (by decide)
        have hbd : Bnd c := (bnd_iff c).1 (by simp only [mayArg, Bool.not_eq_false', Bool.and_eq_true] at hm; exact hm.1)
        exact (may5 c d _ _ w' hbd h.hc h.hd).mono fun e w'' ⟨he, hb⟩ => ⟨he, fun _ => h.next (by decide) hb, fun _ => below_then h.below hb, World.cell?_of_block (a := ⟨w'.heap.size - 1, 0, none⟩) (hb.block _ (by simp; omega))⟩)
    (by intro w' h; exact h.below)
  rw [may_code] at F
  have HF := Lib.hid F
  clear F hsl
  go_enter Tryz.func10, Tryz.ntmps10
  go_wp2_with fail
  refine (HF.out _ ?_).mono ?_
  · obtain ⟨q0, q1, q2, q3, q4⟩ := five_new w (.cells c.cells 30) (.cells #[v] 40) (.cells #[.int .i64 d.day, .int .i64 d.amt] 42) (.cells #[.int .i64 0] 2) (.cells (mayCells w.heap.size) 129)
    exact ⟨(((((Below.refl _ _).alloc (Nat.le_refl _) _).alloc (by simp) _).alloc (by simp; omega) _).alloc (by simp; omega) _).alloc (by simp; omega) _, q0, q1, q2, ⟨0, q3, fun h => absurd rfl h⟩, q4, fun h => absurd rfl h⟩
  · rintro e w' ⟨rfl, hb⟩
    go_wp2
    go_ret
    exact ⟨rfl, hb⟩

end Go.Proofs.YtbigoifpfkdkjaaGreatDoor.Sc
namespace Go.Proofs.YtbigoifpfkdkjaaGreatDoor.Sc
open Go Go.RowKit Go.ChangeShapes Go.WideShapes Go.ChangeAt


theorem tol_def (n : Int) : tol n = (decide (0 ≤ n) && decide (n ≤ 1000)) := rfl
end Go.Proofs.YtbigoifpfkdkjaaGreatDoor.Sc
