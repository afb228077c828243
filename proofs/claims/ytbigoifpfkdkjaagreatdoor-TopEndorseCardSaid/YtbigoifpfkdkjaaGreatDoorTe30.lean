/- share.Split, of fewer than 20 weights: by the program. counts: the base answers; by the program. Words for the walk of TopEndorse: a deed, the mark, rows of originals. -/
import Derived.Test.YtbigoifpfkdkjaaGreatDoorTe28
import Derived.Test.YtbigoifpfkdkjaaGreatDoorTe29
import Derived.Test.YtbigoifpfkdkjaaGreatDoorTe26
import Derived.BigRegion
import Derived.Deep.OwnRows
import Derived.Deep.CutRange
namespace Go.Proofs.YtbigoifpfkdkjaaGreatDoor.Sc
open Go Go.RowKit Go.ChangeShapes Go.WideShapes Go.ChangeAt Go.Sort Go.Shelf
set_option maxRecDepth 100000

theorem infoI64 : (Tryz.prog.info? 2).map (fun i => (i.zero, i.size, i.bytes)) = some (some (.int .i64 0), 1, 8) := by kernel_rfl
theorem infoU64 : (Tryz.prog.info? 205).map (fun i => (i.zero, i.size, i.bytes)) = some (some (.int .u64 0), 1, 8) := by kernel_rfl
theorem infoInt : (Tryz.prog.info? 3).map (fun i => (i.zero, i.size, i.bytes)) = some (some (.int .i64 0), 1, 8) := by kernel_rfl
theorem set_raw4 {w : World} {t : TypeId} {b : Nat} {cs : Array Value} (h : w.heap[b]? = some (.cells cs t (0, 0))) (o : Nat) (u : Value) : (w.setCell ⟨b, o, none⟩ u).heap[b]? = some (.cells (cs.setIfInBounds o u) t (0, 0)) := by
  simp [World.setCell, Array.getElem?_modify, h]
/-- The three rows and the variable that holds the rests. -/
structure Sp4 (w wr : World) (p r b g n : Nat) (P R O : Array Value) : Prop where
  below : Below w.heap.size w wr
  hp : wr.heap[p]? = some (.cells P 2 (0, 0))
  hr : wr.heap[r]? = some (.cells R 205 (0, 0))
  hb : wr.heap[b]? = some (.cells #[.slice (some ⟨r, 0, none⟩) n n] 206 (0, 0))
  hg : wr.heap[g]? = some (.cells O 3 (0, 0))
  lp : w.heap.size ≤ p
  pr : p < r
  rb : r < b
  bg : b < g
  sp : P.size = n
  sr : R.size = n
  so : O.size = n
section
variable {w wr : World} {p r b g n : Nat} {P R O : Array Value}
theorem Sp4.drew (h : Sp4 w wr p r b g n P R O) : Sp4 w wr.drew p r b g n P R O := ⟨h.below.drew, h.hp, h.hr, h.hb, h.hg, h.lp, h.pr, h.rb, h.bg, h.sp, h.sr, h.so⟩
theorem Sp4.on (h : Sp4 w wr p r b g n P R O) {w' : World} (hb : Below wr.heap.size wr w') : Sp4 w w' p r b g n P R O :=
  ⟨h.below.trans (hb.mono h.below.size), blk hb (lt_blk h.hp) h.hp, blk hb (lt_blk h.hr) h.hr, blk hb (lt_blk h.hb) h.hb, blk hb (lt_blk h.hg) h.hg, h.lp, h.pr, h.rb, h.bg, h.sp, h.sr, h.so⟩
theorem Sp4.setP (h : Sp4 w wr p r b g n P R O) (k : Nat) (u : Value) : Sp4 w (wr.setCell ⟨p, k, none⟩ u) p r b g n (P.setIfInBounds k u) R O := by
  have h1 := h.lp; have h2 := h.pr; have h3 := h.rb; have h4 := h.bg
  have ho : ∀ c, c ≠ p → (wr.setCell ⟨p, k, none⟩ u).heap[c]? = wr.heap[c]? := fun c hc => Below.heap_setCell wr ⟨p, k, none⟩ u c hc
  exact ⟨h.below.setCell (p := ⟨p, k, none⟩) h1 u, set_raw4 h.hp k u, (ho r (by omega)).trans h.hr, (ho b (by omega)).trans h.hb, (ho g (by omega)).trans h.hg, h1, h2, h3, h4, by simp [h.sp], h.sr, h.so⟩
theorem Sp4.setR (h : Sp4 w wr p r b g n P R O) (k : Nat) (u : Value) : Sp4 w (wr.setCell ⟨r, k, none⟩ u) p r b g n P (R.setIfInBounds k u) O := by
  have h1 := h.lp; have h2 := h.pr; have h3 := h.rb; have h4 := h.bg
  have ho : ∀ c, c ≠ r → (wr.setCell ⟨r, k, none⟩ u).heap[c]? = wr.heap[c]? := fun c hc => Below.heap_setCell wr ⟨r, k, none⟩ u c hc
  exact ⟨h.below.setCell (p := ⟨r, k, none⟩) (by show _ ≤ r; omega) u, (ho p (by omega)).trans h.hp, set_raw4 h.hr k u, (ho b (by omega)).trans h.hb, (ho g (by omega)).trans h.hg, h1, h2, h3, h4, h.sp, by simp [h.sr], h.so⟩
theorem Sp4.setO (h : Sp4 w wr p r b g n P R O) (k : Nat) (u : Value) : Sp4 w (wr.setCell ⟨g, k, none⟩ u) p r b g n P R (O.setIfInBounds k u) := by
  have h1 := h.lp; have h2 := h.pr; have h3 := h.rb; have h4 := h.bg
  have ho : ∀ c, c ≠ g → (wr.setCell ⟨g, k, none⟩ u).heap[c]? = wr.heap[c]? := fun c hc => Below.heap_setCell wr ⟨g, k, none⟩ u c hc
  exact ⟨h.below.setCell (p := ⟨g, k, none⟩) (by show _ ≤ g; omega) u, (ho p (by omega)).trans h.hp, (ho r (by omega)).trans h.hr, (ho b (by omega)).trans h.hb, set_raw4 h.hg k u, h1, h2, h3, h4, h.sp, h.sr, by simp [h.so]⟩
end
def SplP (w : World) (total : Int) (ws : List Int) (out : List Int) (e : Ending) (w' : World) : Prop :=
  Below w.heap.size w w' ∧ ((wrongS total ws ≠ 0 ∧ e = .returned (.tuple #[.slice none 0 0, .int .i64 (wrongS total ws)])) ∨ (wrongS total ws = 0 ∧ ∃ p, w.heap.size ≤ p ∧ e = .returned (.tuple #[.slice (some ⟨p, 0, none⟩) ws.length ws.length, .int .i64 0]) ∧ w'.heap[p]? = some (.cells (out.map fun x => Value.int .i64 x).toArray 2 (0, 0))))
/-- What the second loop has computed. -/
structure T4 (q r : Nat → Int) (n k : Nat) (P R O : Array Value) : Prop where
  hP : ∀ j, j < n → P[j]? = some (.int .i64 (if j < k then q j else 0))
  hR : ∀ j, j < n → R[j]? = some (.int .u64 (if j < k then r j else 0))
  hO : ∀ j, j < n → O[j]? = some (.int .i64 (if j < k then (j : Int) else 0))
theorem made_at {z : Value} {n j : Nat} (h : j < n) : (madeCells #[z] n)[j]? = some z := by
  rw [← Array.getElem?_toList, toList_madeCells_one, List.getElem?_replicate, if_pos h]
theorem T4.start (q r : Nat → Int) (n : Nat) : T4 q r n 0 (madeCells #[.int .i64 0] n) (madeCells #[.int .u64 0] n) (madeCells #[.int .i64 0] n) :=
  ⟨fun j h => by rw [made_at h]; simp, fun j h => by rw [made_at h]; simp, fun j h => by rw [made_at h]; simp⟩
theorem set_at {q : Nat → Int} {n k : Nat} {ik : IntKind} {P : Array Value} (h : ∀ j, j < n → P[j]? = some (.int ik (if j < k then q j else 0))) (hk : k < n) (hs : P.size = n) (j : Nat) (hj : j < n) : (P.setIfInBounds k (.int ik (q k)))[j]? = some (.int ik (if j < k + 1 then q j else 0)) := by
  rw [Array.getElem?_setIfInBounds]
  by_cases e : k = j
  · subst e; rw [if_pos rfl, if_pos (by omega), if_pos (by omega)]
  · rw [if_neg e, h j hj]
    by_cases e2 : j < k
    · rw [if_pos e2, if_pos (by omega)]
    · rw [if_neg e2, if_neg (by omega)]
theorem T4.step {q r : Nat → Int} {n k : Nat} {P R O : Array Value} (h : T4 q r n k P R O) (hk : k < n) (sp : P.size = n) (sr : R.size = n) (so : O.size = n) : T4 q r n (k + 1) (P.setIfInBounds k (.int .i64 (q k))) (R.setIfInBounds k (.int .u64 (r k))) (O.setIfInBounds k (.int .i64 (k : Int))) :=
  ⟨set_at h.hP hk sp, set_at h.hR hk sr, set_at (q := fun j => (j : Int)) h.hO hk so⟩
theorem mem_sumI {l : List Int} (h : ∀ x ∈ l, 0 ≤ x ∧ x ≤ 1099511627776) {x : Int} (hx : x ∈ l) : x ≤ sumI l := by
  induction l with
  | nil => simp at hx
  | cons a r ih =>
    have h1 := h a (by simp)
    have h2 := sumI_bd (l := r) fun x hx => h x (List.mem_cons_of_mem _ hx)
    rcases List.mem_cons.1 hx with rfl | hx
    · simp only [sumI]; omega
    · have := ih (fun x hx => h x (List.mem_cons_of_mem _ hx)) hx
      simp only [sumI]; omega
theorem mulDiv_any (T X S : Nat) (hT : T ≤ 1099511627776) (hXS : X ≤ S) (hS : 0 < S) (hS2 : S < 18446744073709551616) (w : World) : Calls Tryz.prog 118 #[.int .u64 ((T * X / 18446744073709551616 : Nat) : Int), .int .u64 ((T * X % 18446744073709551616 : Nat) : Int), .int .u64 (S : Int)] w (Ret w (.tuple #[.int .u64 ((T * X / S : Nat) : Int), .int .u64 ((T * X % S : Nat) : Int)])) := by
  have h1 : T * X / 18446744073709551616 < S := by
    rw [Nat.div_lt_iff_lt_mul (by omega)]
    have h2 : T * X ≤ T * S := Nat.mul_le_mul_left T hXS
    have h3 : T * S ≤ 1099511627776 * S := Nat.mul_le_mul_right S hT
    omega
  have h := div64_any (T * X / 18446744073709551616) (T * X % 18446744073709551616) S w (Nat.mod_lt _ (by omega)) h1 hS2
  have e : T * X / 18446744073709551616 * 18446744073709551616 + T * X % 18446744073709551616 = T * X := by omega
  rw [e] at h
  exact h
theorem cells_eq {n : Nat} {f : Nat → Int} {P : Array Value} (hs : P.size = n) (h : ∀ j, j < n → P[j]? = some (.int .i64 (f j))) : P = (((List.range n).map f).map fun x => Value.int .i64 x).toArray := by
  apply Array.ext_getElem?
  intro j
  by_cases hj : j < n
  · rw [h j hj]; simp [hj]
  · rw [Array.getElem?_eq_none (by omega), Array.getElem?_eq_none (by simp; omega)]
set_option maxHeartbeats 8000000 in
theorem splitM_any (total : Int) (ws : List Int) (v : Value) (w : World) (hs : Sl w 1 v (ws.map nRow)) (hl : ws.length < 20) (hz : wrongS total ws = 0) (ht0 : 0 < total) (ht1 : total ≤ 1099511627776) (hws : ∀ x ∈ ws, 0 ≤ x ∧ x ≤ 1099511627776) (hsum : 0 < sumI ws) :
    Calls Tryz.prog 57 #[.int .i64 total, v] w (SplP w total ws (splitS total ws)) := by
  obtain ⟨a, c, rfl⟩ : ∃ a c, v = .slice a ws.length c := by simpa using hs.shape
  have HW := Lib.hid (wrongS_any total ws _ w hs)
  rw [hz] at HW
  have hmk1 := run_make_row' (P := Tryz.prog) 130 2 (.int .i64 0) 8 Tryz.underlying130 infoI64 rfl .i64 .i64 ws.length (by omega) (by omega)
  have hmk2 := run_make_row' (P := Tryz.prog) 206 205 (.int .u64 0) 8 Tryz.underlying206 infoU64 rfl .i64 .i64 ws.length (by omega) (by omega)
  have hmk3 := run_make_row' (P := Tryz.prog) 179 3 (.int .i64 0) 8 Tryz.underlying179 infoInt rfl .i64 .i64 ws.length (by omega) (by omega)
  have t1 : (total == 0) = false := by simp; omega
  have HS := Lib.hid hs
  have HWS := Lib.hid hws
  have hbd := sumI_bd hws
  clear hs hws
  go_enter Tryz.func57, Tryz.ntmps57
  go_wp2_with (first | ((with_reducible refine HW.out.mono ?_); rintro e w1 ⟨rfl, hb1⟩; have HB1 := Lib.hid hb1; clear hb1) | fail)
  clear hmk1
  have HB2 := Lib.hid (HB1.out.trans ((one_below w1 (.cells (madeCells #[.int .i64 0] ws.length) 2)).mono HB1.out.size))
  go_loopw [8, 36] (fun s i wr => ∃ k : Nat, k ≤ ws.length ∧ i = .int .i64 k ∧ s = .int .u64 (sumI (ws.take k)) ∧ wr = w1.alloc (.cells (madeCells #[.int .i64 0] ws.length) 2)) (fun _ i _ => ws.length - (intOf i).toNat)
  case atStart => exact ⟨0, Nat.zero_le _, rfl, rfl, rfl⟩
  case round =>
    obtain ⟨k, hk, rfl, rfl, rfl⟩ := hrel
    by_cases hlt : k < ws.length
    · obtain ⟨b, off, rfl, -, hb, hc⟩ := HS.out.at (i := k) (by simpa using hlt)
      have d0 := (HB2.out.cell (p := ⟨b, off + k * 1, none⟩) hb).trans (hc k (nRow ws[k]) (by simp [hlt]) 0 _ rfl)
      rw [Nat.mul_one] at d0
      have hx := HWS.out ws[k] (List.getElem_mem hlt)
      have htk := sumI_bd (l := ws.take k) (fun x hx => HWS.out x (List.mem_of_mem_take hx))
      rw [List.length_take, Nat.min_eq_left hk] at htk
      have HN := Lib.hid (sumI_take hlt)
      have f1 : IntKind.u64.wrap ws[k] = ws[k] := IntWalk.u64_in _ (by omega)
      have f2 : IntKind.u64.wrap (sumI (ws.take k) + ws[k]) = sumI (ws.take k) + ws[k] := IntWalk.u64_in _ (by omega)
      have tk : ((k : Nat) : Int) < (ws.length : Int) := by omega
      generalize ws[k] = x at *
      generalize sumI (ws.take k) = s at *
      clear hb hc
      go_wp2_with fail
      go_roundw
      case rel => exact ⟨k + 1, by omega, by go_num, by rw [HN.out], trivial⟩
      case measure => (simp [intOf]) <;> omega
    · obtain rfl : k = ws.length := by omega
      have hX0 := sumI_bd (fun x hx => HWS.out x hx)
      obtain ⟨S, hS⟩ : ∃ S : Nat, sumI ws = (S : Int) := ⟨(sumI ws).toNat, by omega⟩
      obtain ⟨T, rfl⟩ : ∃ T : Nat, total = (T : Int) := ⟨total.toNat, by omega⟩
      rw [List.take_length, hS]
      have HWN := Lib.hid (fun k (hk : k < ws.length) => (⟨ws[k].toNat, by have := HWS.out _ (List.getElem_mem hk); omega, by have := HWS.out _ (List.getElem_mem hk); omega, by have := HWS.out _ (List.getElem_mem hk); have := mem_sumI HWS.out (List.getElem_mem hk); omega⟩ : ∃ X : Nat, ws[k] = (X : Int) ∧ X ≤ 1099511627776 ∧ X ≤ S))
      have HQV := Lib.hid (fun k (hk : k < ws.length) (X : Nat) (hX : ws[k] = (X : Int)) => (⟨by rw [qV, List.getD_eq_getElem?_getD, List.getElem?_eq_getElem hk, Option.getD_some, hX, hS]; simp, by rw [rV, List.getD_eq_getElem?_getD, List.getElem?_eq_getElem hk, Option.getD_some, hX, hS]; simp⟩ : qV T ws k = ((T * X / S : Nat) : Int) ∧ rV T ws k = ((T * X % S : Nat) : Int)))
      go_wp2_with fail
      have H4 : Hid (Sp4 w ((((w1.alloc (.cells (madeCells #[.int .i64 0] ws.length) 2)).alloc (.cells (madeCells #[.int .u64 0] ws.length) 205)).alloc (.cells #[.slice (some ⟨w1.heap.size + 1, 0, none⟩) ws.length ws.length] 206)).alloc (.cells (madeCells #[.int .i64 0] ws.length) 3))
        w1.heap.size (w1.heap.size + 1) (w1.heap.size + 1 + 1) (w1.heap.size + 1 + 1 + 1) ws.length (madeCells #[.int .i64 0] ws.length) (madeCells #[.int .u64 0] ws.length) (madeCells #[.int .i64 0] ws.length)) := Lib.hid (by
        have hsz := HB1.out.size
        refine ⟨(((HB2.out.trans ((one_below _ _).mono (by simp <;> omega))).trans ((one_below _ _).mono (by simp <;> omega))).trans ((one_below _ _).mono (by simp <;> omega))), ?_, ?_, ?_, ?_, hsz, by omega, by omega, by omega, size_madeCells _ _, size_madeCells _ _, size_madeCells _ _⟩
        · exact blk (one_below _ _) (by simp <;> omega) (blk (one_below _ _) (by simp <;> omega) (blk (one_below _ _) (by simp) (heap_alloc_new _ _)))
        · refine blk (one_below _ _) (by simp <;> omega) (blk (one_below _ _) (by simp) ?_)
          have := heap_alloc_new (w1.alloc (.cells (madeCells #[.int .i64 0] ws.length) 2)) (.cells (madeCells #[.int .u64 0] ws.length) 205)
          simpa using this
        · refine blk (one_below _ _) (by simp) ?_
          have := heap_alloc_new ((w1.alloc (.cells (madeCells #[.int .i64 0] ws.length) 2)).alloc (.cells (madeCells #[.int .u64 0] ws.length) 205)) (.cells #[.slice (some ⟨w1.heap.size + 1, 0, none⟩) ws.length ws.length] 206)
          simpa using this
        · have := heap_alloc_new (((w1.alloc (.cells (madeCells #[.int .i64 0] ws.length) 2)).alloc (.cells (madeCells #[.int .u64 0] ws.length) 205)).alloc (.cells #[.slice (some ⟨w1.heap.size + 1, 0, none⟩) ws.length ws.length] 206)) (.cells (madeCells #[.int .i64 0] ws.length) 3)
          simpa using this)
      clear hmk2 hmk3
      generalize ((((w1.alloc (.cells (madeCells #[.int .i64 0] ws.length) 2)).alloc (.cells (madeCells #[.int .u64 0] ws.length) 205)).alloc (.cells #[.slice (some ⟨w1.heap.size + 1, 0, none⟩) ws.length ws.length] 206)).alloc (.cells (madeCells #[.int .i64 0] ws.length) 3)) = W0 at *
      generalize w1.heap.size + 1 + 1 + 1 = g at *
      generalize w1.heap.size + 1 + 1 = b at *
      generalize w1.heap.size + 1 = r at *
      generalize w1.heap.size = p at *
      go_loopw [13, 54] (fun l i wr => ∃ (k : Nat) (P R O : Array Value), k ≤ ws.length ∧ i = .int .i64 k ∧ l = .int .i64 ((T : Int) - sumQ (qV T ws) k) ∧ 0 ≤ sumQ (qV T ws) k ∧ sumQ (qV T ws) k ≤ 1099511627776 * k ∧ Sp4 w wr p r b g ws.length P R O ∧ T4 (qV T ws) (rV T ws) ws.length k P R O) (fun _ i _ => ws.length - (intOf i).toNat)
      case atStart => exact ⟨0, _, _, _, Nat.zero_le _, rfl, by simp [sumQ], by simp [sumQ], by simp [sumQ], H4.out, T4.start _ _ _⟩
      case round =>
        obtain ⟨k, P, R, O, hk, rfl, rfl, hq0, hq1, hsp, htt⟩ := hrel
        have HSP := Lib.hid hsp
        have HTT := Lib.hid htt
        by_cases hlt : k < ws.length
        · obtain ⟨bb, off, rfl, -, hb, hc⟩ := HS.out.at (i := k) (by simpa using hlt)
          have d0 := (HSP.out.below.cell (p := ⟨bb, off + k * 1, none⟩) hb).trans (hc k (nRow ws[k]) (by simp [hlt]) 0 _ rfl)
          rw [Nat.mul_one] at d0
          obtain ⟨X, hX, hX1, hX2⟩ := HWN.out k hlt
          obtain ⟨hqv, hrv⟩ := HQV.out k hlt X hX
          rw [hX] at d0
          have HMU := Lib.hid (fun W => Tryz.bits_Mul64 T X (by omega) (by omega) W)
          have HDV := Lib.hid (fun W => mulDiv_any T X S (by omega) hX2 (by omega) (by omega) W)
          obtain ⟨hi, hhi⟩ : ∃ hi, hi = T * X / 18446744073709551616 := ⟨_, rfl⟩
          obtain ⟨lo, hlo⟩ : ∃ lo, lo = T * X % 18446744073709551616 := ⟨_, rfl⟩
          obtain ⟨qn, hqn⟩ : ∃ qn, qn = T * X / S := ⟨_, rfl⟩
          obtain ⟨rn, hrn⟩ : ∃ rn, rn = T * X % S := ⟨_, rfl⟩
          have hqb : qn ≤ 1099511627776 := by
            rw [hqn]
            have h2 : T * X ≤ T * S := Nat.mul_le_mul_left T hX2
            have h3 := Nat.div_le_div_right (c := S) h2
            rw [Nat.mul_div_cancel _ (by omega)] at h3
            omega
          rw [← hhi, ← hlo] at HMU
          rw [← hhi, ← hlo, ← hqn, ← hrn] at HDV
          rw [← hqn] at hqv
          rw [← hrn] at hrv
          have HQR := Lib.hid (And.intro hqv hrv)
          clear hhi hlo hqn hrn hqv hrv
          have tk : ((k : Nat) : Int) < (ws.length : Int) := by omega
          have f1 : IntKind.u64.wrap (T : Int) = T := IntWalk.u64_in _ (by omega)
          have f2 : IntKind.u64.wrap (X : Int) = X := IntWalk.u64_in _ (by omega)
          have f3 : IntKind.i64.wrap (qn : Int) = qn := IntWalk.i64_in _ (by omega)
          clear hb hc hsp htt
          go_upto_region 21 with (first
            | ((with_reducible refine (HMU.out _).mono ?_); rintro e w2 ⟨rfl, rfl⟩)
            | ((with_reducible refine (HDV.out _).mono ?_); rintro e w3 ⟨rfl, hb3⟩; have HSP := Lib.hid (HSP.out.on hb3); clear hb3)
            | fail)
          have hp0 := cell_blk HSP.out.hp k
          rw [HTT.out.hP k hlt] at hp0
          have hr0 := cell_blk HSP.out.hr k
          rw [HTT.out.hR k hlt] at hr0
          have ho0 := cell_blk HSP.out.hg k
          rw [HTT.out.hO k hlt] at ho0
          have hb0 := cell_blk HSP.out.hb 0
          have g1 := free_blk HSP.out.hp k
          have g2 := free_blk HSP.out.hr k
          have g3 := free_blk HSP.out.hg k
          have l1 := HSP.out.pr
          have l2 := HSP.out.rb
          have l3 := HSP.out.bg
          simp only [Nat.lt_irrefl, if_false] at hp0 hr0 ho0
          go_cut [] from 74 to 86 (fun wx => Sp4 w wx p r b g ws.length (P.setIfInBounds k (.int .i64 (qV T ws k))) (R.setIfInBounds k (.int .u64 (rV T ws k))) (O.setIfInBounds k (.int .i64 (k : Int))))
          case first =>
            have HPR : Hid (qV T ws k = (qn : Int) ∧ rV T ws k = (rn : Int)) := HQR
            go_region
            go_wp2_with fail
            go_meet
            rw [HPR.out.1, HPR.out.2]
            exact (((HSP.out.setP k _).setR k _).setO k _).drew
          case rest =>
            have HSP2 := Lib.hid hcut
            have HTT2 := Lib.hid (HTT.out.step hlt HSP.out.sp HSP.out.sr HSP.out.so)
            have hp1 := cell_blk HSP2.out.hp k
            rw [HTT2.out.hP k hlt, if_pos (by omega), HQR.out.1] at hp1
            have hqe := HQR.out.1
            have f4 : IntKind.i64.wrap ((T : Int) - sumQ (qV T ws) k - (qn : Int)) = (T : Int) - sumQ (qV T ws) k - (qn : Int) := IntWalk.i64_in _ (by omega)
            have HSQ : Hid (sumQ (qV T ws) (k + 1) = sumQ (qV T ws) k + (qn : Int)) := Lib.hid (by rw [sumQ, HQR.out.1])
            clear hcut hp0 hr0 ho0 hb0 hqe
            go_wp2_with fail
            go_roundw
            case rel =>
              have h1 := HSQ.out
              exact ⟨k + 1, _, _, _, by omega, by go_num, by rw [h1]; congr 1; omega, by omega, by omega, HSP2.out, HTT2.out⟩
            case measure => (simp [intOf]) <;> omega
        · obtain rfl : k = ws.length := by omega
          have hne : ws ≠ [] := fun e => by rw [e] at hsum; simp [sumI] at hsum
          obtain ⟨m, hm⟩ : ∃ m, ws.length = m + 1 := ⟨ws.length - 1, by have := List.length_pos_iff.2 hne; omega⟩
          obtain ⟨hl0, hl1⟩ := left_bd (T := (T : Int)) hsum
          obtain ⟨L, hL⟩ : ∃ L : Nat, (T : Int) - sumQ (qV T ws) ws.length = (L : Int) := ⟨((T : Int) - sumQ (qV T ws) ws.length).toNat, by omega⟩
          have hrl : (restL T ws).length = m + 1 := by simp [restL, hm]
          have x1 := hsp.lp; have x2 := hsp.pr; have x3 := hsp.rb; have x4 := hsp.bg
          have hH : Holds posE wr g 0 (List.finRange (m + 1)).toArray := fun j hj => by
            have hj' : j < m + 1 := by simpa using hj
            refine ⟨?_, free_blk hsp.hg (0 + j)⟩
            have h1 := cell_blk hsp.hg j
            rw [htt.hO j (by omega), if_pos (by omega)] at h1
            rw [Nat.zero_add, h1, getElem!_pos _ _ (by simpa using hj)]
            simp [posE]
          have hR : RestsAt wr b r (restL T ws) := by
            refine ⟨?_, fun j hj => ?_, lt_blk hsp.hb, lt_blk hsp.hr⟩
            · rw [hrl, ← hm]; exact cell_blk hsp.hb 0
            · have h1 := cell_blk hsp.hr j
              have hj' : j < ws.length := by omega
              rw [htt.hR j hj', if_pos hj'] at h1
              rw [h1]
              simp [restL]
          have HST : Hid (Calls Tryz.prog 119 #[.slice (some ⟨g, 0, none⟩) ws.length ws.length, .func (.func 120) #[] #[.pointer (some ⟨b, 0, none⟩)]] wr (SrtI wr g (ordF m (restL T ws)))) := Lib.hid (by
            have h1 : Calls Tryz.prog 119 #[.slice (some ⟨g, 0, none⟩) (List.finRange (m + 1)).length ws.length, .func (.func 120) #[] #[.pointer (some ⟨b, 0, none⟩)]] wr (SrtI wr g (ordF m (restL T ws))) :=
              sortStableI_any (restL T ws) hrl (List.finRange (m + 1)) g ws.length b r wr hH (by simp; omega) hR (by omega) (by omega)
            rw [List.length_finRange, ← hm] at h1
            exact h1)
          have HOUT : Hid (splitS T ws = (List.range ws.length).map (bumpV (qV T ws) (((ordF m (restL T ws)).map Fin.val).take L))) := Lib.hid (by
            have ho : ordN ws.length (restL T ws) = (ordF m (restL T ws)).map Fin.val := by rw [hm]; rfl
            rw [splitS, ho, hL, Int.toNat_natCast])
          have HEL := Lib.hid (ordF_len m (restL T ws))
          have HEN := Lib.hid (nodup_map_val (ordF_nodup m (restL T ws)))
          have HS5 := Lib.hid (fun (E : List (Fin (m + 1))) (hE : E.length = m + 1) (q : Nat) => Sp5.sorted (q := q) hsp.below hsp.hp hH (by rw [hE, List.length_finRange]) x1 (show p < g by omega) hsp.sp)
          have HP0 : Hid (∀ j, j < ws.length → P[j]? = some (.int .i64 (qV T ws j))) := Lib.hid (fun j hj => by rw [htt.hP j hj, if_pos hj])
          have HQB : Hid (∀ j, j < ws.length → 0 ≤ qV T ws j ∧ qV T ws j ≤ 1099511627776) := Lib.hid (fun j hj => by
            obtain ⟨X, hX, hX1, hX2⟩ := HWN.out j hj
            rw [(HQV.out j hj X hX).1]
            have h2 : T * X ≤ T * S := Nat.mul_le_mul_left T hX2
            have h3 := Nat.div_le_div_right (c := S) h2
            rw [Nat.mul_div_cancel _ (by omega)] at h3
            generalize T * X / S = z at *
            omega)
          generalize ordF m (restL T ws) = E at *
          have tL : ((L : Nat) : Int) ≤ (ws.length : Int) := by omega
          have tL2 : L ≤ ws.length := by omega
          rw [hL]
          have HM := Lib.hid hm
          clear hH hR hrl hsp htt hm
          go_wp2_with (first
            | ((with_reducible refine HST.out.mono ?_); rintro e w5 ⟨rfl, q5, rfl⟩; have HS6 := Lib.hid (HS5.out E HEL.out q5)
               generalize (putRow posE wr g 0 E.toArray).drewN q5 = W5 at *)
            | fail)
          go_loopw [101] (fun i wx => ∃ (k : Nat) (P : Array Value), k ≤ L ∧ i = .int .i64 k ∧ Sp5 w wx p g ws.length P E ∧ ∀ j, j < ws.length → P[j]? = some (.int .i64 (bumpV (qV T ws) ((E.map Fin.val).take k) j))) (fun i _ => L - (intOf i).toNat)
          case atStart => exact ⟨0, P, Nat.zero_le _, rfl, HS6.out, fun j hj => by rw [HP0.out j hj]; simp [bumpV]⟩
          case round =>
            obtain ⟨k, P, hk, rfl, hsp, hpj⟩ := hrel
            have HSP := Lib.hid hsp
            have HPJ := Lib.hid hpj
            by_cases hlt : k < L
            · have hkE : k < E.length := by have := HEL.out; have := HM.out; omega
              obtain ⟨f, hf⟩ : ∃ f, f = E[k].val := ⟨_, rfl⟩
              have hfn : f < ws.length := by rw [hf, HM.out]; exact E[k].isLt
              have c0 := hsp.hg k hkE
              rw [posE, ← hf] at c0
              have c1 := cell_blk hsp.hp f
              rw [hpj f hfn] at c1
              have g1 := free_blk hsp.hp f
              have hx := HQB.out f hfn
              have hxb : 0 ≤ bumpV (qV T ws) ((E.map Fin.val).take k) f ∧ bumpV (qV T ws) ((E.map Fin.val).take k) f ≤ 1099511627777 := by
                unfold bumpV
                split <;> omega
              have HST := Lib.hid (fun j => bump_step (q := qV T ws) HEN.out (k := k) (by simpa using hkE) j)
              have HF : Hid ((E.map Fin.val)[k]'(by simpa using hkE) = f) := Lib.hid (by rw [hf]; simp)
              have HPF := Lib.hid (hpj f hfn)
              generalize hxx : bumpV (qV T ws) ((E.map Fin.val).take k) f = x at *
              have HX := Lib.hid hxx
              have f5 : IntKind.i64.wrap (x + 1) = x + 1 := IntWalk.i64_in _ (by omega)
              have tk : ((k : Nat) : Int) < (L : Int) := by omega
              have tk2 : ((f : Nat) : Int) < (ws.length : Int) := by omega
              clear hsp hpj hf hx hxx
              go_wp2_with fail
              go_roundw
              case rel =>
                refine ⟨k + 1, _, by omega, by go_num, HSP.out.setP f _, fun j hj => ?_⟩
                rw [Array.getElem?_setIfInBounds, HST.out j, HF.out]
                have hsz := HSP.out.sp
                by_cases e : f = j
                · subst e
                  rw [if_pos rfl, if_pos (by omega), if_pos rfl, HX.out]
                · rw [if_neg e, if_neg (fun h => e h.symm), HPJ.out j hj]
              case measure => (simp [intOf]) <;> omega
            · obtain rfl : k = L := by omega
              have hP := cells_eq hsp.sp hpj
              clear hpj
              go_wp2_with fail
              go_ret2
              have h1 := HSP.out.hp
              rw [hP, ← HOUT.out] at h1
              exact ⟨HSP.out.below, .inr ⟨hz, p, HSP.out.lp, rfl, h1⟩⟩
end Go.Proofs.YtbigoifpfkdkjaaGreatDoor.Sc
namespace Go.Proofs.YtbigoifpfkdkjaaGreatDoor.Sc
open Go Go.RowKit Go.ChangeShapes Go.WideShapes Go.ChangeAt Go.Sort Go.Shelf
set_option maxRecDepth 100000

theorem split_ten : splitS 10 [1, 1, 1] = [4, 3, 3] := by decide +kernel
theorem sl_ones (w : World) : Sl (w.alloc (.cells #[.int .i64 1, .int .i64 1, .int .i64 1] 2)) 1 (.slice (some ⟨w.heap.size, 0, none⟩) 3 3) ([(1 : Int), 1, 1].map nRow) := by
  have hx := heap_alloc_new w (.cells #[.int .i64 1, .int .i64 1, .int .i64 1] 2)
  refine .inr ⟨w.heap.size, 0, 3, rfl, lt_blk hx, by simp, by decide, fun i r hr j u hu => ?_⟩
  match i, hr with
  | 0, hr =>
    obtain rfl : nRow 1 = r := by simpa using hr
    match j, hu with
    | 0, hu => exact (cell_blk hx _).trans (by simpa [nRow] using hu)
    | m + 1, hu => simp [nRow] at hu
  | 1, hr =>
    obtain rfl : nRow 1 = r := by simpa using hr
    match j, hu with
    | 0, hu => exact (cell_blk hx _).trans (by simpa [nRow] using hu)
    | m + 1, hu => simp [nRow] at hu
  | 2, hr =>
    obtain rfl : nRow 1 = r := by simpa using hr
    match j, hu with
    | 0, hu => exact (cell_blk hx _).trans (by simpa [nRow] using hu)
    | m + 1, hu => simp [nRow] at hu
  | m + 3, hr => simp at hr
set_option maxHeartbeats 4000000 in
theorem ten_any (w : World) : Calls Tryz.prog 13 #[] w (RetB w true) := by
  have HSP := Lib.hid (splitM_any 10 [1, 1, 1] _ _ (sl_ones w) (by decide) (by decide) (by decide) (by decide) (by decide) (by decide))
  have HB := Lib.hid (one_below w (.cells #[.int .i64 1, .int .i64 1, .int .i64 1] 2))
  go_enter Tryz.func13, Tryz.ntmps13
  go_wp2_with (first
    | ((with_reducible refine HSP.out.mono ?_); rintro e w2 ⟨hb2, ⟨h1, _⟩ | ⟨_, p, _, rfl, hp⟩⟩
       · exact absurd rfl h1
       rw [split_ten] at hp
       have c0 := cell_blk hp 0
       have c1 := cell_blk hp 1
       have c2 := cell_blk hp 2
       simp only [List.map_cons, List.map_nil, List.getElem?_toArray, List.getElem?_cons_zero, List.getElem?_cons_succ] at c0 c1 c2
       have HB2 := Lib.hid (HB.out.trans (hb2.mono HB.out.size))
       clear hb2 hp)
    | fail)
  go_ret
  exact retB rfl HB2.out
end Go.Proofs.YtbigoifpfkdkjaaGreatDoor.Sc
namespace Go.Proofs.YtbigoifpfkdkjaaGreatDoor.Sc
open Go Go.RowKit Go.ChangeShapes Go.WideShapes Go.ChangeAt
set_option maxRecDepth 100000

/-- A deed. -/
structure Dd where
  kind : Int
  idx : Int
  frm : Int
  dst : Int
def Dd.row (x : Dd) : List Value := [.int .u8 x.kind, .int .u8 x.idx, .int .u8 x.frm, .int .u8 x.dst]
def Dd.fit (x : Dd) : Prop := (0 ≤ x.kind ∧ x.kind ≤ 255) ∧ (0 ≤ x.idx ∧ x.idx ≤ 255) ∧ (0 ≤ x.frm ∧ x.frm ≤ 255) ∧ (0 ≤ x.dst ∧ x.dst ≤ 255)
def mkOwn : ByteArray := ⟨#[97, 98, 99, 100]⟩
def mkB : ByteArray := txt (markB (bt mkOwn) 1)
theorem mkB_ok : markOk (bt mkB) = true := by
  have h : bt mkB = markB (bt mkOwn) 1 := by simp [mkB, bt, txt]
  rw [h]
  exact mark_made (by decide +kernel)
theorem mkC_ok : makeC (bt mkOwn) 1 = 0 := by decide +kernel
theorem make_abcd (w : World) (ht : TabW w) : Calls Tryz.prog 15 #[.string mkOwn, .int .i64 1] w (Ret w (.tuple #[.string mkB, .int .i64 0])) :=
  (mkMake_any mkOwn 1 w ht).mono fun e w' h => by
    obtain ⟨he, hb⟩ := h
    rw [mkC_ok, if_pos rfl] at he
    exact ⟨he, hb⟩
theorem Reg.base {B B' : Nat} {w : World} {br bm be : Nat} {E : En} {vb vp v0 v1 v2 : Value} {m : ByteArray} (h : Reg B w br bm be E vb vp v0 v1 v2 m) (hB : B' ≤ B) : Reg B' w br bm be E vb vp v0 v1 v2 m :=
  ⟨h.rg, h.box, ownsRow_base h.r0 hB, ownsRow_base h.r1 hB, ownsRow_base h.r2 hB, h.a01, h.a02, h.a12, ownsRow_base h.bx hB⟩
def aoRow (E : En) (k : Nat) : List Value := aoC k (E.og k)
theorem aoN_rows (E : En) : aoN E 3 = ([aoRow E 0, aoRow E 1, aoRow E 2] : List (List Value)).flatten := by simp [aoN, aoRow, En.og]
theorem ao_rows (E : En) : ∀ r ∈ ([aoRow E 0, aoRow E 1, aoRow E 2] : List (List Value)), r.length = 4 := by
  intro r hr
  simp only [List.mem_cons, List.not_mem_nil, or_false] at hr
  rcases hr with rfl | rfl | rfl <;> rfl
theorem ao_sl {w : World} {B : Nat} {E : En} {v : Value} (h : w.ownsRow B 69 4 v 3 (aoN E 3)) : Sl w 4 v [aoRow E 0, aoRow E 1, aoRow E 2] := by
  rw [aoN_rows] at h
  exact own_sl h rfl (ao_rows E)
theorem ao_at {w : World} {E : En} {a : Option Addr} {n c : Nat} (h : Sl w 4 (.slice a n c) [aoRow E 0, aoRow E 1, aoRow E 2]) {k : Nat} (hk : k < 3) : ∃ b off, a = some ⟨b, off, none⟩ ∧ n = 3 ∧ b < w.heap.size ∧
    w.cell? ⟨b, off + k * 4, none⟩ = some (.string b1B) ∧ w.cell? ⟨b, off + k * 4 + 1, none⟩ = some (.int .i64 k) ∧ w.cell? ⟨b, off + k * 4 + 2, none⟩ = some (.int .i64 (E.og k).st) ∧ w.cell? ⟨b, off + k * 4 + 3, none⟩ = some (.string (E.og k).hd) := by
  obtain ⟨b, off, e, hn, hb, hc⟩ := h.at (i := k) (by simpa using hk)
  have hr := hc k (aoRow E k) (by
    obtain rfl | rfl | rfl : k = 0 ∨ k = 1 ∨ k = 2 := by omega
    all_goals rfl)
  exact ⟨b, off, e, hn, hb, hr 0 _ rfl, hr 1 _ rfl, hr 2 _ rfl, hr 3 _ rfl⟩
end Go.Proofs.YtbigoifpfkdkjaaGreatDoor.Sc
