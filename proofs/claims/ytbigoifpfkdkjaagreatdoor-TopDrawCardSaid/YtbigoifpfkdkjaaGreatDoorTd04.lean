/- The contract of allow.behind: the draws with one more, in a slice of the call's own. The contract of a package's 'first': the code of the first check that holds, each check a call of a function value. -/
import Derived.Test.YtbigoifpfkdkjaaGreatDoorTd02
import Derived.Test.YtbigoifpfkdkjaaGreatDoorTd03
import Derived.Test.YtbigoifpfkdkjaaGreatDoorTd01
namespace Go.Proofs.YtbigoifpfkdkjaaGreatDoor.Sc
open Go Go.RowKit Go.ChangeShapes Go.WideShapes Go.ChangeAt
set_option maxRecDepth 100000

theorem infoDr : (Tryz.prog.info? 42).map (fun i => (i.zero, i.size, i.bytes)) = some (some (.agg #[.int .i64 0, .int .i64 0]), 2, 16) := by kernel_rfl

/-- The cells of draws. -/
def drCells (l : List Dr) : List Value := l.flatMap Dr.row
theorem drCells_append (a b : List Dr) : drCells (a ++ b) = drCells a ++ drCells b := by simp [drCells]
theorem drCells_length (l : List Dr) : (drCells l).length = l.length * 2 := by
  induction l with
  | nil => rfl
  | cons d r ih => simp only [drCells, List.flatMap_cons, List.length_append, List.length_cons] at *; rw [ih]; simp [Dr.row]; omega

theorem drCells_one (l : List Dr) : ∀ u ∈ drCells l, u.oneCell' = true := by
  intro u hu
  simp only [drCells, List.mem_flatMap, Dr.row, List.mem_cons, List.not_mem_nil, or_false] at hu
  obtain ⟨d, _, rfl | rfl⟩ := hu <;> rfl

set_option maxHeartbeats 1000000 in
theorem behind_any (l : List Dr) (d : Dr) (v : Value) (w : World) (hs : Sl w 2 v (l.map Dr.row)) (hlen : l.length ≤ 1000000) :
    Calls Tryz.prog 49 #[v, .agg #[.int .i64 d.day, .int .i64 d.amt]] w (RetRow w 42 2 (l.length + 1) (drCells (l ++ [d]))) := by
  obtain ⟨i0, hi, hz, hsz, hby⟩ := info_parts infoDr
  have hshape : ∃ a c, v = .slice a l.length c := by simpa using hs.shape
  have HSH := Lib.hid hshape
  have hs0 := hs
  clear hs
  clear hshape
  go_enter Tryz.func49, Tryz.ntmps49
  go_wp2_with fail
  refine Any.region_lit (fun
    | 0 => Any.val v
    | 1 => Any.val (.int .i64 l.length)
    | 2 => Any.val (.int .i64 (l.length + 1))
    | 3 => Any.row (w.heap.size + 1) 42 2 0 [] []
    | 4 => Any.val v
    | 5 => Any.row (w.heap.size + 1) 42 2 l.length (drCells l) [3]
    | 6 => Any.val (.agg #[.int .i64 d.day, .int .i64 d.amt])
    | 7 => Any.made 42 1 #[.int .i64 d.day, .int .i64 d.amt]
    | 8 => Any.row (w.heap.size + 1) 42 2 (l.length + 1) (drCells (l ++ [d])) [5]
    | 9 => Any.row (w.heap.size + 1) 42 2 (l.length + 1) (drCells (l ++ [d])) [8]
    | _ => Any.idle) (by kernel_rfl) (by kernel_rfl) (by kernel_rfl) ?_ ?_ ?_
  · intro i _
    match i with
    | 0 | 1 | 2 | 4 | 6 => exact Any.lasts_val _
    | 3 | 5 | 8 | 9 => exact Any.lasts_row _ _ _ _ _ _
    | 7 => exact Any.lasts_made _ _ _
    | n + 10 => exact Any.lasts_idle
  · refine ⟨?_, ?_, ?_, ?_, ?_, ?_, ?_, ?_, ?_, ?_, trivial⟩
    · refine Any.owes_plain rfl fun ρ W hs hb hc => ?_
      have h0 : ρ (.tmp 0) = v := hs.old' 0 (by kernel_rfl)
      exact Any.ok_move (Any.post_val hb rfl h0)
    · refine Any.owes_plain rfl fun ρ W hs hb hc => ?_
      have h0 : ρ (.tmp 5) = v := hs.new' 5 0 (by kernel_rfl)
      obtain ⟨a, c, hv⟩ := HSH.out
      rw [hv] at h0
      go_simp
      exact Any.post_val hb rfl rfl
    · refine Any.owes_plain rfl fun ρ W hs hb hc => ?_
      have h0 : ρ (.tmp 6) = .int .i64 l.length := hs.new' 6 1 (by kernel_rfl)
      go_simp
      exact Any.post_val hb rfl (wrap_in (by omega))
    · refine Any.owes_plain rfl fun ρ W hs hb hc => ?_
      have h0 : ρ (.tmp 7) = .int .i64 ((l.length + 1 : Nat) : Int) := hs.new' 7 2 (by kernel_rfl)
      have hbase : w.heap.size + 1 ≤ W.heap.size := by have := hb.size; simpa using this
      exact Any.ok_make_own Tryz.underlying40 hi hz hsz h0 (hc _) (by rw [hby]; omega) (by simp only [maxLen]; omega) hbase fun w' h1 h2 =>
        Any.post_new hb h1 ((Below.refl _ _).grown h2 (Nat.le_refl _) (by simp)) (by intro b hb'; simp [Any.row, Value.ownBlock] at hb'; omega)
    · refine Any.owes_plain rfl fun ρ W hs hb hc => ?_
      have h0 : ρ (.tmp 0) = v := hs.old' 0 (by kernel_rfl)
      exact Any.ok_move (Any.post_val hb rfl h0)
    · refine Any.owes_plain rfl fun ρ W hs hb hc => ?_
      have h8 : W.ownsRow (w.heap.size + 1) 42 2 (ρ (.tmp 8)) 0 [] := hs.new' 8 3 (by kernel_rfl)
      have h9 : ρ (.tmp 9) = v := hs.new' 9 4 (by kernel_rfl)
      have hsrc : Src W 2 (ρ (.tmp 9)) l.length (drCells l) := by
        rw [h9]
        have := (hs0.below (((one_below w _).drew).trans (hb.mono (B' := w.heap.size) (by simp))) (Nat.le_refl _)).src (by intro r hr; obtain ⟨d, _, rfl⟩ := List.mem_map.1 hr; rfl) (by decide)
        rw [List.length_map] at this
        exact this
      have hbase : w.heap.size + 1 ≤ W.heap.size := by have := hb.size; simpa using this
      refine Any.ok_append_own Tryz.underlying40 hi hz hsz hby rfl (by decide) h8 hsrc (drCells_one l) (by simp only [maxLen]; omega) (by omega) hbase fun v' w' h1 h2 h3 => ?_
      rw [List.nil_append, Nat.zero_add] at h1
      exact Any.post_take hb h1 h2 rfl ⟨_, _, _, rfl⟩ rfl rfl (by simp) h3 (fun b hb => (h8.lt b hb).1)
    · refine Any.owes_plain rfl fun ρ W hs hb hc => ?_
      have h0 : ρ (.tmp 3) = .pointer (some ⟨w.heap.size, 0, none⟩) := hs.old' 3 (by kernel_rfl)
      have c0 : W.cell? ⟨w.heap.size, 0, none⟩ = some (.int .i64 d.day) := (hb.cell (p := ⟨w.heap.size, 0, none⟩) (by simp)).trans (cell_new w _ _ _)
      have c1 : W.cell? ⟨w.heap.size, 1, none⟩ = some (.int .i64 d.amt) := (hb.cell (p := ⟨w.heap.size, 1, none⟩) (by simp)).trans (cell_new w _ _ _)
      go_simp
      exact Any.post_val hb rfl rfl
    · refine Any.owes_plain rfl fun ρ W hs hb hc => ?_
      have h0 : ρ (.tmp 11) = .agg #[.int .i64 d.day, .int .i64 d.amt] := hs.new' 11 6 (by kernel_rfl)
      go_simp
      exact Any.post_new hb ⟨_, rfl, heap_alloc_new _ _⟩ (one_below _ _) (by intro b hb'; obtain rfl : W.heap.size = b := Option.some.inj hb'; exact Nat.le_refl _)
    · refine Any.owes_plain rfl fun ρ W hs hb hc => ?_
      have h8 : W.ownsRow (w.heap.size + 1) 42 2 (ρ (.tmp 10)) l.length (drCells l) := hs.new' 10 5 (by kernel_rfl)
      obtain ⟨g, hg, hgb⟩ : ∃ b, ρ (.tmp 12) = .slice (some ⟨b, 0, none⟩) 1 1 ∧ W.heap[b]? = some (.cells #[.int .i64 d.day, .int .i64 d.amt] 42 (0, 0)) := hs.new' 12 7 (by kernel_rfl)
      have hsrc : Src W 2 (ρ (.tmp 12)) 1 d.row := by
        rw [hg]
        exact src_block hgb rfl
      have hbase : w.heap.size + 1 ≤ W.heap.size := by have := hb.size; simpa using this
      refine Any.ok_append_own Tryz.underlying40 hi hz hsz hby rfl (by decide) h8 hsrc (by intro u hu; simp [Dr.row] at hu; rcases hu with rfl | rfl <;> rfl) (by simp only [maxLen]; omega) (by omega) hbase fun v' w' h1 h2 h3 => ?_
      rw [show drCells l ++ d.row = drCells (l ++ [d]) from by simp [drCells]] at h1
      exact Any.post_take hb h1 h2 rfl ⟨_, _, _, rfl⟩ rfl rfl (by simp) h3 (fun b hb => (h8.lt b hb).1)
    · refine Any.owes_plain rfl fun ρ W hs hb hc => ?_
      have h8 : W.ownsRow (w.heap.size + 1) 42 2 (ρ (.tmp 13)) (l.length + 1) (drCells (l ++ [d])) := hs.new' 13 8 (by kernel_rfl)
      exact Any.ok_assign (Any.post_pass hb rfl ⟨_, rfl⟩ rfl rfl h8)
  · intro vals w' hb hk ha
    have h9 : w'.ownsRow (w.heap.size + 1) 42 2 (vals 9) (l.length + 1) (drCells (l ++ [d])) := hk 9 (by kernel_rfl)
    have hb' := below_new hb
    clear hk ha hb
    go_simp
    go_wp2
    go_ret
    exact retRow h9 (by omega) hb'
end Go.Proofs.YtbigoifpfkdkjaaGreatDoor.Sc
namespace Go.Proofs.YtbigoifpfkdkjaaGreatDoor.Sc
open Go Go.RowKit Go.ChangeShapes Go.WideShapes Go.ChangeAt
set_option maxRecDepth 100000

section
variable {ops : Array Oper} {rest : List Oper} {a : Act} {w : World} {Q : Exit → Act → World → Prop} {dst : Option Tmp} {t : TypeId} {pos : String} {after : Array Edge} {gd : Option (Nat × Bool)}
/-- A call of a function value without arguments. -/
theorem call_dyn (x : Operand) (k : FuncId) (caps : Array Value) {R : Ending → World → Prop} (hw : Region.wanted ⟨dst, .call ⟨.value x, #[], #[]⟩, t, pos, after, gd⟩ (yielded ops a.tmps) = true)
    (hx : a.eval x = .func (.func k) #[] caps) (hgo : ∀ w, (callFunc k caps).run Tryz.prog w = .ok (.enter k caps) w)
    (hc : Calls Tryz.prog k caps w R) (h : ∀ e w', R e w' → ∃ v, e = .returned v ∧ wpList Tryz.prog ops Q rest (a.put dst v) w') :
    wpList Tryz.prog ops Q (⟨dst, .call ⟨.value x, #[], #[]⟩, t, pos, after, gd⟩ :: rest) a w := by
  refine wpList_step fun K hK => ?_
  rw [if_pos hw]
  unfold Oper.wp
  have hr : (execOp a.eval ⟨dst, .call ⟨.value x, #[], #[]⟩, t, pos, after, gd⟩).run Tryz.prog w = .ok (.enter k caps) w := by
    simp [execOp, resolve, hx, Deferred.ofValue, invoke, hgo]
  rw [hr]
  refine hc.mono fun e w' he => ?_
  obtain ⟨v, rfl, hv⟩ := h e w' he
  exact hK _ _ hv
end

/-- The code of the first that holds, from number i on. -/
def firstFrom (code : Nat → Int) (b : Nat → Bool) : Nat → Nat → Int
  | 0, _ => 0
  | n + 1, i => if b i then code i else firstFrom code b n (i + 1)

set_option maxHeartbeats 1000000 in
theorem first_gen (n : Nat) (hn : n ≤ 64) (blk0 : Nat) (code : Nat → Int) (k : Nat → FuncId) (cap : Nat → Array Value) (b : Nat → Bool) (I : Nat → World → Prop) (J : World → Prop) (w : World)
    (hI : I 0 w) (hgo : ∀ i, i < n → ∀ w, (callFunc (k i) (cap i)).run Tryz.prog w = .ok (.enter (k i) (cap i)) w)
    (hcell : ∀ i w', i < n → I i w' → w'.cell? ⟨blk0, 2 * i, none⟩ = some (.int .i64 (code i)) ∧ w'.cell? ⟨blk0, 2 * i + 1, none⟩ = some (.func (.func (k i)) #[] (cap i)))
    (hnew : ∀ i w' o, I i w' → I i (World.alloc w' o))
    (hcall : ∀ i w', i < n → I i w' → Calls Tryz.prog (k i) (cap i) w' fun e w'' => e = .returned (.bool (b i)) ∧ (b i = false → I (i + 1) w'') ∧ (b i = true → J w'') ∧ w''.cell? ⟨w'.heap.size - 1, 0, none⟩ = w'.cell? ⟨w'.heap.size - 1, 0, none⟩)
    (hend : ∀ w', I n w' → J w') :
    Calls Tryz.prog 46 #[.slice (some ⟨blk0, 0, none⟩) n n] w fun e w' => e = .returned (.int .i64 (firstFrom code b n 0)) ∧ J w' := by
  go_enter Tryz.func46, Tryz.ntmps46
  go_wp2
  have HGO := Lib.hid hgo
  have HCELL := Lib.hid hcell
  have HNEW := Lib.hid hnew
  have HCALL := Lib.hid hcall
  have hend := Lib.hid hend
  clear hgo hcell hnew hcall
  go_loopw [7] (fun i wr => ∃ j : Nat, j ≤ n ∧ i = .int .i64 j ∧ I j wr ∧ firstFrom code b n 0 = firstFrom code b (n - j) j) (fun i _ => n - (intOf i).toNat)
  case atStart => exact ⟨0, Nat.zero_le _, rfl, hI, rfl⟩
  case round =>
    obtain ⟨j, hj, rfl, hIj, hff⟩ := hrel
    have HFF := Lib.hid hff
    clear hff
    by_cases hlt : j < n
    · obtain ⟨c0, c1⟩ := HCELL.out j wr hlt hIj
      rw [Nat.mul_comm] at c0 c1
      have hI2 := HNEW.out j wr (.cells #[.int .i64 (code j), .func (.func (k j)) #[] (cap j)] 129) hIj
      have hgo := HGO.out j hlt
      have GO := Lib.hid hgo
      clear hgo
      have hstep : firstFrom code b (n - j) j = if b j then code j else firstFrom code b (n - (j + 1)) (j + 1) := by
        rw [show n - j = (n - (j + 1)) + 1 from by omega]; rfl
      have HS := Lib.hid hstep
      clear hstep
      have hc := HCALL.out j _ hlt hI2
      have HC := Lib.hid hc
      clear hc
      have h0 := heap_alloc_new wr (.cells #[.int .i64 (code j), .func (.func (k j)) #[] (cap j)] 129)
      have CB : Hid ((wr.alloc (.cells #[.int .i64 (code j), .func (.func (k j)) #[] (cap j)] 129)).cell? ⟨wr.heap.size, 0, none⟩ = some (.int .i64 (code j))) := Lib.hid (by rw [World.cell?_alloc_at _ _ _ _ rfl]; rfl)
      have HCELL2 : Hid (∀ w' : World, w'.cell? ⟨(wr.alloc (.cells #[.int .i64 (code j), .func (.func (k j)) #[] (cap j)] 129)).heap.size - 1, 0, none⟩ = (wr.alloc (.cells #[.int .i64 (code j), .func (.func (k j)) #[] (cap j)] 129)).cell? ⟨(wr.alloc (.cells #[.int .i64 (code j), .func (.func (k j)) #[] (cap j)] 129)).heap.size - 1, 0, none⟩ → w'.cell? ⟨wr.heap.size, 0, none⟩ = some (.int .i64 (code j))) := Lib.hid (fun w' h => by
        have e : (wr.alloc (.cells #[.int .i64 (code j), .func (.func (k j)) #[] (cap j)] 129)).heap.size - 1 = wr.heap.size := by simp
        rw [e] at h
        exact h.trans CB.out)
      generalize code j = cj at *
      generalize k j = kj at *
      generalize cap j = capj at *
      cases hb : b j
      · have HB := Lib.hid hb
        clear hb
        go_wp2_with (first | (refine call_dyn (.tmp 12) kj capj rfl rfl GO.out HC.out ?_; rintro e w' ⟨rfl, hI3, hJ3, hbel⟩; refine ⟨_, rfl, ?_⟩; rw [HB.out]; clear hJ3 hbel) | fail)
        go_roundw
        case rel => exact ⟨j + 1, by omega, by go_num, hI3 HB.out, by rw [HFF.out, HS.out, HB.out]; rfl⟩
        case measure => simp [intOf]; omega
      · have HB := Lib.hid hb
        clear hb
        go_wp2_with (first | (refine call_dyn (.tmp 12) kj capj rfl rfl GO.out HC.out ?_; rintro e w' ⟨rfl, hI3, hJ3, hbel⟩; refine ⟨_, rfl, ?_⟩; rw [HB.out]; have q0 : w'.cell? ⟨wr.heap.size, 0, none⟩ = some (.int .i64 cj) := HCELL2.out w' hbel; clear hI3 hbel) | fail)
        go_ret
        exact ⟨by rw [HFF.out, HS.out, HB.out]; rfl, hJ3 HB.out⟩
    · have hjn : j = n := by omega
      subst hjn
      go_wp2
      go_ret
      exact ⟨by rw [HFF.out, Nat.sub_self]; rfl, hend.out _ hIj⟩
end Go.Proofs.YtbigoifpfkdkjaaGreatDoor.Sc
