/- share.Split, of fewer than 20 weights: by the program. share.Split: the parts are the total; a total of nothing. Texts by their bytes, in order. Texts compared; the letters of a name. mark.Name and the document's word of layer 6. -/
import Derived.Test.YtnbhneeohkfocaaDoorTo08
import Derived.Test.YtnbhneeohkfocaaDoorTo09
import Derived.Test.YtnbhneeohkfocaaDoorTo01
import Derived.Test.YtnbhneeohkfocaaDoorTo06
import Derived.BigRegion
import Derived.Deep.OwnRows
import Derived.Deep.CutRange
import Derived.ChangeMaps5
namespace Go.Proofs.YtnbhneeohkfocaaDoor.Sc
open Go Go.RowKit Go.ChangeShapes Go.WideShapes Go.ChangeAt Go.Sort Go.Shelf
set_option maxRecDepth 100000

theorem infoI64 : (Tryd.prog.info? 2).map (fun i => (i.zero, i.size, i.bytes)) = some (some (.int .i64 0), 1, 8) := by kernel_rfl
theorem infoU64 : (Tryd.prog.info? 68).map (fun i => (i.zero, i.size, i.bytes)) = some (some (.int .u64 0), 1, 8) := by kernel_rfl
theorem infoInt : (Tryd.prog.info? 3).map (fun i => (i.zero, i.size, i.bytes)) = some (some (.int .i64 0), 1, 8) := by kernel_rfl
theorem set_raw4 {w : World} {t : TypeId} {b : Nat} {cs : Array Value} (h : w.heap[b]? = some (.cells cs t (0, 0))) (o : Nat) (u : Value) : (w.setCell ⟨b, o, none⟩ u).heap[b]? = some (.cells (cs.setIfInBounds o u) t (0, 0)) := by
  simp [World.setCell, Array.getElem?_modify, h]
/-- The three rows and the variable that holds the rests. -/
structure Sp4 (w wr : World) (p r b g n : Nat) (P R O : Array Value) : Prop where
  below : Below w.heap.size w wr
  hp : wr.heap[p]? = some (.cells P 2 (0, 0))
  hr : wr.heap[r]? = some (.cells R 68 (0, 0))
  hb : wr.heap[b]? = some (.cells #[.slice (some ⟨r, 0, none⟩) n n] 69 (0, 0))
  hg : wr.heap[g]? = some (.cells O 3 (0, 0))
  lp : w.heap.size ≤ p
  pr : p < r
  rb : r < b
  bg : b < g
  sp : P.size = n
  sr : R.size = n
  so : O.size = n
section
variable {w wr : World} {p r b g n : Nat} {P R O : Array Value}
theorem Sp4.drew (h : Sp4 w wr p r b g n P R O) : Sp4 w wr.drew p r b g n P R O := ⟨h.below.drew, h.hp, h.hr, h.hb, h.hg, h.lp, h.pr, h.rb, h.bg, h.sp, h.sr, h.so⟩
theorem Sp4.on (h : Sp4 w wr p r b g n P R O) {w' : World} (hb : Below wr.heap.size wr w') : Sp4 w w' p r b g n P R O :=
  ⟨h.below.trans (hb.mono h.below.size), blk hb (lt_blk h.hp) h.hp, blk hb (lt_blk h.hr) h.hr, blk hb (lt_blk h.hb) h.hb, blk hb (lt_blk h.hg) h.hg, h.lp, h.pr, h.rb, h.bg, h.sp, h.sr, h.so⟩
theorem Sp4.setP (h : Sp4 w wr p r b g n P R O) (k : Nat) (u : Value) : Sp4 w (wr.setCell ⟨p, k, none⟩ u) p r b g n (P.setIfInBounds k u) R O := by
  have h1 := h.lp; have h2 := h.pr; have h3 := h.rb; have h4 := h.bg
  have ho : ∀ c, c ≠ p → (wr.setCell ⟨p, k, none⟩ u).heap[c]? = wr.heap[c]? := fun c hc => Below.heap_setCell wr ⟨p, k, none⟩ u c hc
  exact ⟨h.below.setCell (p := ⟨p, k, none⟩) h1 u, set_raw4 h.hp k u, (ho r (by omega)).trans h.hr, (ho b (by omega)).trans h.hb, (ho g (by omega)).trans h.hg, h1, h2, h3, h4, by simp [h.sp], h.sr, h.so⟩
theorem Sp4.setR (h : Sp4 w wr p r b g n P R O) (k : Nat) (u : Value) : Sp4 w (wr.setCell ⟨r, k, none⟩ u) p r b g n P (R.setIfInBounds k u) O := by
  have h1 := h.lp; have h2 := h.pr; have h3 := h.rb; have h4 := h.bg
  have ho : ∀ c, c ≠ r → (wr.setCell ⟨r, k, none⟩ u).heap[c]? = wr.heap[c]? := fun c hc => Below.heap_setCell wr ⟨r, k, none⟩ u c hc
  exact ⟨h.below.setCell (p := ⟨r, k, none⟩) (by show _ ≤ r; omega) u, (ho p (by omega)).trans h.hp, set_raw4 h.hr k u, (ho b (by omega)).trans h.hb, (ho g (by omega)).trans h.hg, h1, h2, h3, h4, h.sp, by simp [h.sr], h.so⟩
theorem Sp4.setO (h : Sp4 w wr p r b g n P R O) (k : Nat) (u : Value) : Sp4 w (wr.setCell ⟨g, k, none⟩ u) p r b g n P R (O.setIfInBounds k u) := by
  have h1 := h.lp; have h2 := h.pr; have h3 := h.rb; have h4 := h.bg
  have ho : ∀ c, c ≠ g → (wr.setCell ⟨g, k, none⟩ u).heap[c]? = wr.heap[c]? := fun c hc => Below.heap_setCell wr ⟨g, k, none⟩ u c hc
  exact ⟨h.below.setCell (p := ⟨g, k, none⟩) (by show _ ≤ g; omega) u, (ho p (by omega)).trans h.hp, (ho r (by omega)).trans h.hr, (ho b (by omega)).trans h.hb, set_raw4 h.hg k u, h1, h2, h3, h4, h.sp, h.sr, by simp [h.so]⟩
end
def SplP (w : World) (total : Int) (ws : List Int) (out : List Int) (e : Ending) (w' : World) : Prop :=
  Below w.heap.size w w' ∧ ((wrongS total ws ≠ 0 ∧ e = .returned (.tuple #[.slice none 0 0, .int .i64 (wrongS total ws)])) ∨ (wrongS total ws = 0 ∧ ∃ p, w.heap.size ≤ p ∧ e = .returned (.tuple #[.slice (some ⟨p, 0, none⟩) ws.length ws.length, .int .i64 0]) ∧ w'.heap[p]? = some (.cells (out.map fun x => Value.int .i64 x).toArray 2 (0, 0))))
/-- What the second loop has computed. -/
structure T4 (q r : Nat → Int) (n k : Nat) (P R O : Array Value) : Prop where
  hP : ∀ j, j < n → P[j]? = some (.int .i64 (if j < k then q j else 0))
  hR : ∀ j, j < n → R[j]? = some (.int .u64 (if j < k then r j else 0))
  hO : ∀ j, j < n → O[j]? = some (.int .i64 (if j < k then (j : Int) else 0))
theorem made_at {z : Value} {n j : Nat} (h : j < n) : (madeCells #[z] n)[j]? = some z := by
  rw [← Array.getElem?_toList, toList_madeCells_one, List.getElem?_replicate, if_pos h]
theorem T4.start (q r : Nat → Int) (n : Nat) : T4 q r n 0 (madeCells #[.int .i64 0] n) (madeCells #[.int .u64 0] n) (madeCells #[.int .i64 0] n) :=
  ⟨fun j h => by rw [made_at h]; simp, fun j h => by rw [made_at h]; simp, fun j h => by rw [made_at h]; simp⟩
theorem set_at {q : Nat → Int} {n k : Nat} {ik : IntKind} {P : Array Value} (h : ∀ j, j < n → P[j]? = some (.int ik (if j < k then q j else 0))) (hk : k < n) (hs : P.size = n) (j : Nat) (hj : j < n) : (P.setIfInBounds k (.int ik (q k)))[j]? = some (.int ik (if j < k + 1 then q j else 0)) := by
  rw [Array.getElem?_setIfInBounds]
  by_cases e : k = j
  · subst e; rw [if_pos rfl, if_pos (by omega), if_pos (by omega)]
  · rw [if_neg e, h j hj]
    by_cases e2 : j < k
    · rw [if_pos e2, if_pos (by omega)]
    · rw [if_neg e2, if_neg (by omega)]
theorem T4.step {q r : Nat → Int} {n k : Nat} {P R O : Array Value} (h : T4 q r n k P R O) (hk : k < n) (sp : P.size = n) (sr : R.size = n) (so : O.size = n) : T4 q r n (k + 1) (P.setIfInBounds k (.int .i64 (q k))) (R.setIfInBounds k (.int .u64 (r k))) (O.setIfInBounds k (.int .i64 (k : Int))) :=
  ⟨set_at h.hP hk sp, set_at h.hR hk sr, set_at (q := fun j => (j : Int)) h.hO hk so⟩
theorem mem_sumI {l : List Int} (h : ∀ x ∈ l, 0 ≤ x ∧ x ≤ 1099511627776) {x : Int} (hx : x ∈ l) : x ≤ sumI l := by
  induction l with
  | nil => simp at hx
  | cons a r ih =>
    have h1 := h a (by simp)
    have h2 := sumI_bd (l := r) fun x hx => h x (List.mem_cons_of_mem _ hx)
    rcases List.mem_cons.1 hx with rfl | hx
    · simp only [sumI]; omega
    · have := ih (fun x hx => h x (List.mem_cons_of_mem _ hx)) hx
      simp only [sumI]; omega
theorem mulDiv_any (T X S : Nat) (hT : T ≤ 1099511627776) (hXS : X ≤ S) (hS : 0 < S) (hS2 : S < 18446744073709551616) (w : World) : Calls Tryd.prog 30 #[.int .u64 ((T * X / 18446744073709551616 : Nat) : Int), .int .u64 ((T * X % 18446744073709551616 : Nat) : Int), .int .u64 (S : Int)] w (Ret w (.tuple #[.int .u64 ((T * X / S : Nat) : Int), .int .u64 ((T * X % S : Nat) : Int)])) := by
  have h1 : T * X / 18446744073709551616 < S := by
    rw [Nat.div_lt_iff_lt_mul (by omega)]
    have h2 : T * X ≤ T * S := Nat.mul_le_mul_left T hXS
    have h3 : T * S ≤ 1099511627776 * S := Nat.mul_le_mul_right S hT
    omega
  have h := div64_any (T * X / 18446744073709551616) (T * X % 18446744073709551616) S w (Nat.mod_lt _ (by omega)) h1 hS2
  have e : T * X / 18446744073709551616 * 18446744073709551616 + T * X % 18446744073709551616 = T * X := by omega
  rw [e] at h
  exact h
theorem cells_eq {n : Nat} {f : Nat → Int} {P : Array Value} (hs : P.size = n) (h : ∀ j, j < n → P[j]? = some (.int .i64 (f j))) : P = (((List.range n).map f).map fun x => Value.int .i64 x).toArray := by
  apply Array.ext_getElem?
  intro j
  by_cases hj : j < n
  · rw [h j hj]; simp [hj]
  · rw [Array.getElem?_eq_none (by omega), Array.getElem?_eq_none (by simp; omega)]
set_option maxHeartbeats 8000000 in
theorem splitM_any (total : Int) (ws : List Int) (v : Value) (w : World) (hs : Sl w 1 v (ws.map nRow)) (hl : ws.length < 20) (hz : wrongS total ws = 0) (ht0 : 0 < total) (ht1 : total ≤ 1099511627776) (hws : ∀ x ∈ ws, 0 ≤ x ∧ x ≤ 1099511627776) (hsum : 0 < sumI ws) :
    Calls Tryd.prog 12 #[.int .i64 total, v] w (SplP w total ws (splitS total ws)) := by
  obtain ⟨a, c, rfl⟩ : ∃ a c, v = .slice a ws.length c := by simpa using hs.shape
  have HW := Lib.hid (wrongS_any total ws _ w hs)
  rw [hz] at HW
  have hmk1 := run_make_row' (P := Tryd.prog) 46 2 (.int .i64 0) 8 Tryd.underlying46 infoI64 rfl .i64 .i64 ws.length (by omega) (by omega)
  have hmk2 := run_make_row' (P := Tryd.prog) 69 68 (.int .u64 0) 8 Tryd.underlying69 infoU64 rfl .i64 .i64 ws.length (by omega) (by omega)
  have hmk3 := run_make_row' (P := Tryd.prog) 32 3 (.int .i64 0) 8 Tryd.underlying32 infoInt rfl .i64 .i64 ws.length (by omega) (by omega)
  have t1 : (total == 0) = false := by simp; omega
  have HS := Lib.hid hs
  have HWS := Lib.hid hws
  have hbd := sumI_bd hws
  clear hs hws
  go_enter Tryd.func12, Tryd.ntmps12
  go_wp2_with (first | ((with_reducible refine HW.out.mono ?_); rintro e w1 ⟨rfl, hb1⟩; have HB1 := Lib.hid hb1; clear hb1) | fail)
  clear hmk1
  have HB2 := Lib.hid (HB1.out.trans ((one_below w1 (.cells (madeCells #[.int .i64 0] ws.length) 2)).mono HB1.out.size))
  go_loopw [8, 36] (fun s i wr => ∃ k : Nat, k ≤ ws.length ∧ i = .int .i64 k ∧ s = .int .u64 (sumI (ws.take k)) ∧ wr = w1.alloc (.cells (madeCells #[.int .i64 0] ws.length) 2)) (fun _ i _ => ws.length - (intOf i).toNat)
  case atStart => exact ⟨0, Nat.zero_le _, rfl, rfl, rfl⟩
  case round =>
    obtain ⟨k, hk, rfl, rfl, rfl⟩ := hrel
    by_cases hlt : k < ws.length
    · obtain ⟨b, off, rfl, -, hb, hc⟩ := HS.out.at (i := k) (by simpa using hlt)
      have d0 := (HB2.out.cell (p := ⟨b, off + k * 1, none⟩) hb).trans (hc k (nRow ws[k]) (by simp [hlt]) 0 _ rfl)
      rw [Nat.mul_one] at d0
      have hx := HWS.out ws[k] (List.getElem_mem hlt)
      have htk := sumI_bd (l := ws.take k) (fun x hx => HWS.out x (List.mem_of_mem_take hx))
      rw [List.length_take, Nat.min_eq_left hk] at htk
      have HN := Lib.hid (sumI_take hlt)
      have f1 : IntKind.u64.wrap ws[k] = ws[k] := IntWalk.u64_in _ (by omega)
      have f2 : IntKind.u64.wrap (sumI (ws.take k) + ws[k]) = sumI (ws.take k) + ws[k] := IntWalk.u64_in _ (by omega)
      have tk : ((k : Nat) : Int) < (ws.length : Int) := by omega
      generalize ws[k] = x at *
      generalize sumI (ws.take k) = s at *
      clear hb hc
      go_wp2_with fail
      go_roundw
      case rel => exact ⟨k + 1, by omega, by go_num, by rw [HN.out], trivial⟩
      case measure => (simp [intOf]) <;> omega
    · obtain rfl : k = ws.length := by omega
      have hX0 := sumI_bd (fun x hx => HWS.out x hx)
      obtain ⟨S, hS⟩ : ∃ S : Nat, sumI ws = (S : Int) := ⟨(sumI ws).toNat, by omega⟩
      obtain ⟨T, rfl⟩ : ∃ T : Nat, total = (T : Int) := ⟨total.toNat, by omega⟩
      rw [List.take_length, hS]
      have HWN := Lib.hid (fun k (hk : k < ws.length) => (⟨ws[k].toNat, by have := HWS.out _ (List.getElem_mem hk); omega, by have := HWS.out _ (List.getElem_mem hk); omega, by have := HWS.out _ (List.getElem_mem hk); have := mem_sumI HWS.out (List.getElem_mem hk); omega⟩ : ∃ X : Nat, ws[k] = (X : Int) ∧ X ≤ 1099511627776 ∧ X ≤ S))
      have HQV := Lib.hid (fun k (hk : k < ws.length) (X : Nat) (hX : ws[k] = (X : Int)) => (⟨by rw [qV, List.getD_eq_getElem?_getD, List.getElem?_eq_getElem hk, Option.getD_some, hX, hS]; simp, by rw [rV, List.getD_eq_getElem?_getD, List.getElem?_eq_getElem hk, Option.getD_some, hX, hS]; simp⟩ : qV T ws k = ((T * X / S : Nat) : Int) ∧ rV T ws k = ((T * X % S : Nat) : Int)))
      go_wp2_with fail
      have H4 : Hid (Sp4 w ((((w1.alloc (.cells (madeCells #[.int .i64 0] ws.length) 2)).alloc (.cells (madeCells #[.int .u64 0] ws.length) 68)).alloc (.cells #[.slice (some ⟨w1.heap.size + 1, 0, none⟩) ws.length ws.length] 69)).alloc (.cells (madeCells #[.int .i64 0] ws.length) 3))
        w1.heap.size (w1.heap.size + 1) (w1.heap.size + 1 + 1) (w1.heap.size + 1 + 1 + 1) ws.length (madeCells #[.int .i64 0] ws.length) (madeCells #[.int .u64 0] ws.length) (madeCells #[.int .i64 0] ws.length)) := Lib.hid (by
        have hsz := HB1.out.size
        refine ⟨(((HB2.out.trans ((one_below _ _).mono (by simp <;> omega))).trans ((one_below _ _).mono (by simp <;> omega))).trans ((one_below _ _).mono (by simp <;> omega))), ?_, ?_, ?_, ?_, hsz, by omega, by omega, by omega, size_madeCells _ _, size_madeCells _ _, size_madeCells _ _⟩
        · exact blk (one_below _ _) (by simp <;> omega) (blk (one_below _ _) (by simp <;> omega) (blk (one_below _ _) (by simp) (heap_alloc_new _ _)))
        · refine blk (one_below _ _) (by simp <;> omega) (blk (one_below _ _) (by simp) ?_)
          have := heap_alloc_new (w1.alloc (.cells (madeCells #[.int .i64 0] ws.length) 2)) (.cells (madeCells #[.int .u64 0] ws.length) 68)
          simpa using this
        · refine blk (one_below _ _) (by simp) ?_
          have := heap_alloc_new ((w1.alloc (.cells (madeCells #[.int .i64 0] ws.length) 2)).alloc (.cells (madeCells #[.int .u64 0] ws.length) 68)) (.cells #[.slice (some ⟨w1.heap.size + 1, 0, none⟩) ws.length ws.length] 69)
          simpa using this
        · have := heap_alloc_new (((w1.alloc (.cells (madeCells #[.int .i64 0] ws.length) 2)).alloc (.cells (madeCells #[.int .u64 0] ws.length) 68)).alloc (.cells #[.slice (some ⟨w1.heap.size + 1, 0, none⟩) ws.length ws.length] 69)) (.cells (madeCells #[.int .i64 0] ws.length) 3)
          simpa using this)
      clear hmk2 hmk3
      generalize ((((w1.alloc (.cells (madeCells #[.int .i64 0] ws.length) 2)).alloc (.cells (madeCells #[.int .u64 0] ws.length) 68)).alloc (.cells #[.slice (some ⟨w1.heap.size + 1, 0, none⟩) ws.length ws.length] 69)).alloc (.cells (madeCells #[.int .i64 0] ws.length) 3)) = W0 at *
      generalize w1.heap.size + 1 + 1 + 1 = g at *
      generalize w1.heap.size + 1 + 1 = b at *
      generalize w1.heap.size + 1 = r at *
      generalize w1.heap.size = p at *
      go_loopw [13, 54] (fun l i wr => ∃ (k : Nat) (P R O : Array Value), k ≤ ws.length ∧ i = .int .i64 k ∧ l = .int .i64 ((T : Int) - sumQ (qV T ws) k) ∧ 0 ≤ sumQ (qV T ws) k ∧ sumQ (qV T ws) k ≤ 1099511627776 * k ∧ Sp4 w wr p r b g ws.length P R O ∧ T4 (qV T ws) (rV T ws) ws.length k P R O) (fun _ i _ => ws.length - (intOf i).toNat)
      case atStart => exact ⟨0, _, _, _, Nat.zero_le _, rfl, by simp [sumQ], by simp [sumQ], by simp [sumQ], H4.out, T4.start _ _ _⟩
      case round =>
        obtain ⟨k, P, R, O, hk, rfl, rfl, hq0, hq1, hsp, htt⟩ := hrel
        have HSP := Lib.hid hsp
        have HTT := Lib.hid htt
        by_cases hlt : k < ws.length
        · obtain ⟨bb, off, rfl, -, hb, hc⟩ := HS.out.at (i := k) (by simpa using hlt)
          have d0 := (HSP.out.below.cell (p := ⟨bb, off + k * 1, none⟩) hb).trans (hc k (nRow ws[k]) (by simp [hlt]) 0 _ rfl)
          rw [Nat.mul_one] at d0
          obtain ⟨X, hX, hX1, hX2⟩ := HWN.out k hlt
          obtain ⟨hqv, hrv⟩ := HQV.out k hlt X hX
          rw [hX] at d0
          have HMU := Lib.hid (fun W => Tryd.bits_Mul64 T X (by omega) (by omega) W)
          have HDV := Lib.hid (fun W => mulDiv_any T X S (by omega) hX2 (by omega) (by omega) W)
          obtain ⟨hi, hhi⟩ : ∃ hi, hi = T * X / 18446744073709551616 := ⟨_, rfl⟩
          obtain ⟨lo, hlo⟩ : ∃ lo, lo = T * X % 18446744073709551616 := ⟨_, rfl⟩
          obtain ⟨qn, hqn⟩ : ∃ qn, qn = T * X / S := ⟨_, rfl⟩
          obtain ⟨rn, hrn⟩ : ∃ rn, rn = T * X % S := ⟨_, rfl⟩
          have hqb : qn ≤ 1099511627776 := by
            rw [hqn]
            have h2 : T * X ≤ T * S := Nat.mul_le_mul_left T hX2
            have h3 := Nat.div_le_div_right (c := S) h2
            rw [Nat.mul_div_cancel _ (by omega)] at h3
            omega
          rw [← hhi, ← hlo] at HMU
          rw [← hhi, ← hlo, ← hqn, ← hrn] at HDV
          rw [← hqn] at hqv
          rw [← hrn] at hrv
          have HQR := Lib.hid (And.intro hqv hrv)
          clear hhi hlo hqn hrn hqv hrv
          have tk : ((k : Nat) : Int) < (ws.length : Int) := by omega
          have f1 : IntKind.u64.wrap (T : Int) = T := IntWalk.u64_in _ (by omega)
          have f2 : IntKind.u64.wrap (X : Int) = X := IntWalk.u64_in _ (by omega)
          have f3 : IntKind.i64.wrap (qn : Int) = qn := IntWalk.i64_in _ (by omega)
          clear hb hc hsp htt
          go_upto_region 21 with (first
            | ((with_reducible refine (HMU.out _).mono ?_); rintro e w2 ⟨rfl, rfl⟩)
            | ((with_reducible refine (HDV.out _).mono ?_); rintro e w3 ⟨rfl, hb3⟩; have HSP := Lib.hid (HSP.out.on hb3); clear hb3)
            | fail)
          have hp0 := cell_blk HSP.out.hp k
          rw [HTT.out.hP k hlt] at hp0
          have hr0 := cell_blk HSP.out.hr k
          rw [HTT.out.hR k hlt] at hr0
          have ho0 := cell_blk HSP.out.hg k
          rw [HTT.out.hO k hlt] at ho0
          have hb0 := cell_blk HSP.out.hb 0
          have g1 := free_blk HSP.out.hp k
          have g2 := free_blk HSP.out.hr k
          have g3 := free_blk HSP.out.hg k
          have l1 := HSP.out.pr
          have l2 := HSP.out.rb
          have l3 := HSP.out.bg
          simp only [Nat.lt_irrefl, if_false] at hp0 hr0 ho0
          go_cut [] from 74 to 86 (fun wx => Sp4 w wx p r b g ws.length (P.setIfInBounds k (.int .i64 (qV T ws k))) (R.setIfInBounds k (.int .u64 (rV T ws k))) (O.setIfInBounds k (.int .i64 (k : Int))))
          case first =>
            have HPR : Hid (qV T ws k = (qn : Int) ∧ rV T ws k = (rn : Int)) := HQR
            go_region
            go_wp2_with fail
            go_meet
            rw [HPR.out.1, HPR.out.2]
            exact (((HSP.out.setP k _).setR k _).setO k _).drew
          case rest =>
            have HSP2 := Lib.hid hcut
            have HTT2 := Lib.hid (HTT.out.step hlt HSP.out.sp HSP.out.sr HSP.out.so)
            have hp1 := cell_blk HSP2.out.hp k
            rw [HTT2.out.hP k hlt, if_pos (by omega), HQR.out.1] at hp1
            have hqe := HQR.out.1
            have f4 : IntKind.i64.wrap ((T : Int) - sumQ (qV T ws) k - (qn : Int)) = (T : Int) - sumQ (qV T ws) k - (qn : Int) := IntWalk.i64_in _ (by omega)
            have HSQ : Hid (sumQ (qV T ws) (k + 1) = sumQ (qV T ws) k + (qn : Int)) := Lib.hid (by rw [sumQ, HQR.out.1])
            clear hcut hp0 hr0 ho0 hb0 hqe
            go_wp2_with fail
            go_roundw
            case rel =>
              have h1 := HSQ.out
              exact ⟨k + 1, _, _, _, by omega, by go_num, by rw [h1]; congr 1; omega, by omega, by omega, HSP2.out, HTT2.out⟩
            case measure => (simp [intOf]) <;> omega
        · obtain rfl : k = ws.length := by omega
          have hne : ws ≠ [] := fun e => by rw [e] at hsum; simp [sumI] at hsum
          obtain ⟨m, hm⟩ : ∃ m, ws.length = m + 1 := ⟨ws.length - 1, by have := List.length_pos_iff.2 hne; omega⟩
          obtain ⟨hl0, hl1⟩ := left_bd (T := (T : Int)) hsum
          obtain ⟨L, hL⟩ : ∃ L : Nat, (T : Int) - sumQ (qV T ws) ws.length = (L : Int) := ⟨((T : Int) - sumQ (qV T ws) ws.length).toNat, by omega⟩
          have hrl : (restL T ws).length = m + 1 := by simp [restL, hm]
          have x1 := hsp.lp; have x2 := hsp.pr; have x3 := hsp.rb; have x4 := hsp.bg
          have hH : Holds posE wr g 0 (List.finRange (m + 1)).toArray := fun j hj => by
            have hj' : j < m + 1 := by simpa using hj
            refine ⟨?_, free_blk hsp.hg (0 + j)⟩
            have h1 := cell_blk hsp.hg j
            rw [htt.hO j (by omega), if_pos (by omega)] at h1
            rw [Nat.zero_add, h1, getElem!_pos _ _ (by simpa using hj)]
            simp [posE]
          have hR : RestsAt wr b r (restL T ws) := by
            refine ⟨?_, fun j hj => ?_, lt_blk hsp.hb, lt_blk hsp.hr⟩
            · rw [hrl, ← hm]; exact cell_blk hsp.hb 0
            · have h1 := cell_blk hsp.hr j
              have hj' : j < ws.length := by omega
              rw [htt.hR j hj', if_pos hj'] at h1
              rw [h1]
              simp [restL]
          have HST : Hid (Calls Tryd.prog 31 #[.slice (some ⟨g, 0, none⟩) ws.length ws.length, .func (.func 32) #[] #[.pointer (some ⟨b, 0, none⟩)]] wr (SrtI wr g (ordF m (restL T ws)))) := Lib.hid (by
            have h1 : Calls Tryd.prog 31 #[.slice (some ⟨g, 0, none⟩) (List.finRange (m + 1)).length ws.length, .func (.func 32) #[] #[.pointer (some ⟨b, 0, none⟩)]] wr (SrtI wr g (ordF m (restL T ws))) :=
              sortStableI_any (restL T ws) hrl (List.finRange (m + 1)) g ws.length b r wr hH (by simp; omega) hR (by omega) (by omega)
            rw [List.length_finRange, ← hm] at h1
            exact h1)
          have HOUT : Hid (splitS T ws = (List.range ws.length).map (bumpV (qV T ws) (((ordF m (restL T ws)).map Fin.val).take L))) := Lib.hid (by
            have ho : ordN ws.length (restL T ws) = (ordF m (restL T ws)).map Fin.val := by rw [hm]; rfl
            rw [splitS, ho, hL, Int.toNat_natCast])
          have HEL := Lib.hid (ordF_len m (restL T ws))
          have HEN := Lib.hid (nodup_map_val (ordF_nodup m (restL T ws)))
          have HS5 := Lib.hid (fun (E : List (Fin (m + 1))) (hE : E.length = m + 1) (q : Nat) => Sp5.sorted (q := q) hsp.below hsp.hp hH (by rw [hE, List.length_finRange]) x1 (show p < g by omega) hsp.sp)
          have HP0 : Hid (∀ j, j < ws.length → P[j]? = some (.int .i64 (qV T ws j))) := Lib.hid (fun j hj => by rw [htt.hP j hj, if_pos hj])
          have HQB : Hid (∀ j, j < ws.length → 0 ≤ qV T ws j ∧ qV T ws j ≤ 1099511627776) := Lib.hid (fun j hj => by
            obtain ⟨X, hX, hX1, hX2⟩ := HWN.out j hj
            rw [(HQV.out j hj X hX).1]
            have h2 : T * X ≤ T * S := Nat.mul_le_mul_left T hX2
            have h3 := Nat.div_le_div_right (c := S) h2
            rw [Nat.mul_div_cancel _ (by omega)] at h3
            generalize T * X / S = z at *
            omega)
          generalize ordF m (restL T ws) = E at *
          have tL : ((L : Nat) : Int) ≤ (ws.length : Int) := by omega
          have tL2 : L ≤ ws.length := by omega
          rw [hL]
          have HM := Lib.hid hm
          clear hH hR hrl hsp htt hm
          go_wp2_with (first
            | ((with_reducible refine HST.out.mono ?_); rintro e w5 ⟨rfl, q5, rfl⟩; have HS6 := Lib.hid (HS5.out E HEL.out q5)
               generalize (putRow posE wr g 0 E.toArray).drewN q5 = W5 at *)
            | fail)
          go_loopw [101] (fun i wx => ∃ (k : Nat) (P : Array Value), k ≤ L ∧ i = .int .i64 k ∧ Sp5 w wx p g ws.length P E ∧ ∀ j, j < ws.length → P[j]? = some (.int .i64 (bumpV (qV T ws) ((E.map Fin.val).take k) j))) (fun i _ => L - (intOf i).toNat)
          case atStart => exact ⟨0, P, Nat.zero_le _, rfl, HS6.out, fun j hj => by rw [HP0.out j hj]; simp [bumpV]⟩
          case round =>
            obtain ⟨k, P, hk, rfl, hsp, hpj⟩ := hrel
            have HSP := Lib.hid hsp
            have HPJ := Lib.hid hpj
            by_cases hlt : k < L
            · have hkE : k < E.length := by have := HEL.out; have := HM.out; omega
              obtain ⟨f, hf⟩ : ∃ f, f = E[k].val := ⟨_, rfl⟩
              have hfn : f < ws.length := by rw [hf, HM.out]; exact E[k].isLt
              have c0 := hsp.hg k hkE
              rw [posE, ← hf] at c0
              have c1 := cell_blk hsp.hp f
              rw [hpj f hfn] at c1
              have g1 := free_blk hsp.hp f
              have hx := HQB.out f hfn
              have hxb : 0 ≤ bumpV (qV T ws) ((E.map Fin.val).take k) f ∧ bumpV (qV T ws) ((E.map Fin.val).take k) f ≤ 1099511627777 := by
                unfold bumpV
                split <;> omega
              have HST := Lib.hid (fun j => bump_step (q := qV T ws) HEN.out (k := k) (by simpa using hkE) j)
              have HF : Hid ((E.map Fin.val)[k]'(by simpa using hkE) = f) := Lib.hid (by rw [hf]; simp)
              have HPF := Lib.hid (hpj f hfn)
              generalize hxx : bumpV (qV T ws) ((E.map Fin.val).take k) f = x at *
              have HX := Lib.hid hxx
              have f5 : IntKind.i64.wrap (x + 1) = x + 1 := IntWalk.i64_in _ (by omega)
              have tk : ((k : Nat) : Int) < (L : Int) := by omega
              have tk2 : ((f : Nat) : Int) < (ws.length : Int) := by omega
              clear hsp hpj hf hx hxx
              go_wp2_with fail
              go_roundw
              case rel =>
                refine ⟨k + 1, _, by omega, by go_num, HSP.out.setP f _, fun j hj => ?_⟩
                rw [Array.getElem?_setIfInBounds, HST.out j, HF.out]
                have hsz := HSP.out.sp
                by_cases e : f = j
                · subst e
                  rw [if_pos rfl, if_pos (by omega), if_pos rfl, HX.out]
                · rw [if_neg e, if_neg (fun h => e h.symm), HPJ.out j hj]
              case measure => (simp [intOf]) <;> omega
            · obtain rfl : k = L := by omega
              have hP := cells_eq hsp.sp hpj
              clear hpj
              go_wp2_with fail
              go_ret2
              have h1 := HSP.out.hp
              rw [hP, ← HOUT.out] at h1
              exact ⟨HSP.out.below, .inr ⟨hz, p, HSP.out.lp, rfl, h1⟩⟩
end Go.Proofs.YtnbhneeohkfocaaDoor.Sc
namespace Go.Proofs.YtnbhneeohkfocaaDoor.Sc
open Go Go.RowKit Go.ChangeShapes Go.WideShapes Go.ChangeAt Go.Sort Go.Shelf
set_option maxRecDepth 100000

theorem sumI_app (a b : List Int) : sumI (a ++ b) = sumI a + sumI b := by
  induction a with
  | nil => simp [sumI]
  | cons x r ih => rw [List.cons_append, sumI, sumI, ih]; omega
theorem sumI_range (f : Nat → Int) : ∀ n, sumI ((List.range n).map f) = sumQ f n
  | 0 => rfl
  | n + 1 => by rw [List.range_succ, List.map_append, sumI_app, sumI_range f n, sumQ]; simp [sumI]
theorem sumQ_one (f g : Nat → Int) (a : Nat) (h : ∀ j, g j = if j = a then f j + 1 else f j) : ∀ n, sumQ g n = sumQ f n + if a < n then 1 else 0
  | 0 => by simp [sumQ]
  | n + 1 => by
    rw [sumQ, sumQ, sumQ_one f g a h n, h n]
    by_cases e : n = a
    · subst e
      rw [if_pos rfl, if_neg (Nat.lt_irrefl _), if_pos (Nat.lt_succ_self _)]
      omega
    · rw [if_neg e]
      by_cases e2 : a < n
      · rw [if_pos e2, if_pos (by omega)]; omega
      · rw [if_neg e2, if_neg (by omega)]; omega
theorem sumQ_bump (q : Nat → Int) {E : List Nat} (hn : E.Nodup) {n : Nat} (hE : ∀ x ∈ E, x < n) : ∀ k, k ≤ E.length → sumQ (bumpV q (E.take k)) n = sumQ q n + k
  | 0, _ => by
    have : bumpV q (E.take 0) = q := by funext j; simp [bumpV]
    rw [this]; simp
  | k + 1, h => by
    rw [sumQ_one (bumpV q (E.take k)) _ E[k] (fun j => bump_step hn (by omega) j), sumQ_bump q hn hE k (by omega), if_pos (hE _ (List.getElem_mem _))]
    omega
theorem ordN_ok (n : Nat) (rs : List Int) : (ordN n rs).Nodup ∧ (ordN n rs).length = n ∧ ∀ x ∈ ordN n rs, x < n := by
  cases n with
  | zero => exact ⟨List.nodup_nil, rfl, fun x hx => by cases hx⟩
  | succ m =>
    refine ⟨nodup_map_val (ordF_nodup m rs), by simp [ordN, ordF_len], fun x hx => ?_⟩
    obtain ⟨y, -, rfl⟩ := List.mem_map.1 hx
    exact y.isLt
theorem splitS_sum {T : Int} {ws : List Int} (hS : 0 < sumI ws) : sumI (splitS T ws) = T := by
  obtain ⟨h1, h2, h3⟩ := ordN_ok ws.length (restL T ws)
  obtain ⟨h4, h5⟩ := left_bd (T := T) hS
  rw [splitS, sumI_range, sumQ_bump (qV T ws) h1 h3 _ (by omega)]
  omega
theorem splitS_len (T : Int) (ws : List Int) : (splitS T ws).length = ws.length := by simp [splitS]
theorem splitS_nn {T : Int} {ws : List Int} (hT : 0 ≤ T) (hw : ∀ x ∈ ws, 0 ≤ x ∧ x ≤ 1099511627776) : ∀ x ∈ splitS T ws, 0 ≤ x := by
  intro x hx
  obtain ⟨j, hj, rfl⟩ := List.mem_map.1 hx
  have hj := List.mem_range.1 hj
  have h1 : 0 ≤ qV T ws j := by
    refine Int.ediv_nonneg (Int.mul_nonneg hT ?_) (sumI_bd hw).1
    rw [getD_lt hj]
    exact (hw _ (List.getElem_mem hj)).1
  unfold bumpV
  split <;> omega
theorem wrongS_zero {T : Int} {ws : List Int} (h0 : 0 ≤ T) (h1 : T ≤ 1099511627776) (hl : 1 ≤ ws.length) (h2 : ws.length ≤ 64) (hw : ∀ x ∈ ws, 0 ≤ x ∧ x ≤ 1099511627776) (hS : 0 < sumI ws) : wrongS T ws = 0 := by
  have a1 : ws.any (fun n => decide (n < 0)) = false := by
    rw [List.any_eq_false]; intro x hx; have := hw x hx; simp; omega
  have a2 : ws.any (fun n => decide (1099511627776 < n)) = false := by
    rw [List.any_eq_false]; intro x hx; have := hw x hx; simp; omega
  have a3 : ws.any (fun n => decide (0 < n)) = true := by
    cases h : ws.any (fun n => decide (0 < n)) with
    | true => rfl
    | false =>
      exfalso
      rw [List.any_eq_false] at h
      have : ∀ l : List Int, (∀ x ∈ l, ¬ 0 < x) → sumI l ≤ 0 := by
        intro l
        induction l with
        | nil => intro _; simp [sumI]
        | cons a r ih =>
          intro h
          have h3 := ih fun x hx => h x (List.mem_cons_of_mem _ hx)
          have h4 := h a List.mem_cons_self
          simp only [sumI]; omega
      have := this ws (fun x hx => by simpa using h x hx)
      omega
  unfold wrongS
  rw [a1, a2, a3, if_neg (by rintro (h | h | h); omega; omega; cases h), if_neg (by rintro (h | h | h); omega; omega; cases h), if_neg (by rintro ⟨-, h⟩; cases h)]
/-- What Split tells of a total and weights that are right. -/
def SpzP (w : World) (total : Int) (n : Nat) (e : Ending) (w' : World) : Prop :=
  Below w.heap.size w w' ∧ ∃ (p : Nat) (out : List Int), w.heap.size ≤ p ∧ e = .returned (.tuple #[.slice (some ⟨p, 0, none⟩) n n, .int .i64 0]) ∧ w'.heap[p]? = some (.cells (out.map fun x => Value.int .i64 x).toArray 2 (0, 0)) ∧ out.length = n ∧ sumI out = total ∧ ∀ x ∈ out, 0 ≤ x
theorem sumI_zeros : ∀ n, sumI (List.replicate n 0) = 0
  | 0 => rfl
  | n + 1 => by rw [List.replicate_succ, sumI, sumI_zeros n]; rfl
theorem made_zeros (n : Nat) : madeCells #[.int .i64 0] n = ((List.replicate n (0 : Int)).map fun x => Value.int .i64 x).toArray := by
  apply Array.ext'
  rw [toList_madeCells_one]
  simp
set_option maxHeartbeats 4000000 in
theorem splitZ_any (ws : List Int) (v : Value) (w : World) (hs : Sl w 1 v (ws.map nRow)) (hl : ws.length < 20) (hz : wrongS 0 ws = 0) : Calls Tryd.prog 12 #[.int .i64 0, v] w (SpzP w 0 ws.length) := by
  obtain ⟨a, c, rfl⟩ : ∃ a c, v = .slice a ws.length c := by simpa using hs.shape
  have HW := Lib.hid (wrongS_any 0 ws _ w hs)
  rw [hz] at HW
  have hmk1 := run_make_row' (P := Tryd.prog) 46 2 (.int .i64 0) 8 Tryd.underlying46 infoI64 rfl .i64 .i64 ws.length (by omega) (by omega)
  clear hs
  go_enter Tryd.func12, Tryd.ntmps12
  go_wp2_with (first | ((with_reducible refine HW.out.mono ?_); rintro e w1 ⟨rfl, hb1⟩; have HB1 := Lib.hid hb1; clear hb1) | fail)
  clear hmk1
  go_ret2
  refine ⟨HB1.out.trans ((one_below _ _).mono HB1.out.size), w1.heap.size, List.replicate ws.length 0, HB1.out.size, rfl, ?_, by simp, sumI_zeros _, fun x hx => by rw [(List.mem_replicate.1 hx).2]; exact Int.le_refl _⟩
  rw [← made_zeros]
  exact heap_alloc_new _ _
theorem splitO_any (total : Int) (ws : List Int) (v : Value) (w : World) (hs : Sl w 1 v (ws.map nRow)) (h0 : 0 ≤ total) (h1 : total ≤ 1099511627776) (hl : 1 ≤ ws.length) (h2 : ws.length < 20) (hw : ∀ x ∈ ws, 0 ≤ x ∧ x ≤ 1099511627776) (hS : 0 < sumI ws) :
    Calls Tryd.prog 12 #[.int .i64 total, v] w (SpzP w total ws.length) := by
  have hz := wrongS_zero h0 h1 hl (by omega) hw hS
  by_cases ht : 0 < total
  · refine (splitM_any total ws v w hs h2 hz ht h1 hw hS).mono ?_
    rintro e w' ⟨hb, ⟨hne, _⟩ | ⟨_, p, hp, he, hc⟩⟩
    · exact absurd hz hne
    · exact ⟨hb, p, splitS total ws, hp, he, hc, splitS_len _ _, splitS_sum hS, splitS_nn h0 hw⟩
  · obtain rfl : total = 0 := by omega
    exact splitZ_any ws v w hs h2 hz
end Go.Proofs.YtnbhneeohkfocaaDoor.Sc
namespace Go.Proofs.YtnbhneeohkfocaaDoor.Sc
open Go Go.RowKit Go.ChangeShapes Go.WideShapes Go.ChangeAt

def bt (s : ByteArray) : List UInt8 := s.data.toList
theorem bt_inj {a b : ByteArray} (h : bt a = bt b) : a = b := bytes_inj h
theorem bytesLess_eq : ∀ (x y : List UInt8), Op.bytesLess x y = decide (x < y)
  | [], [] => rfl
  | [], b :: y => by simp [Op.bytesLess]
  | a :: x, [] => by simp [Op.bytesLess]
  | a :: x, b :: y => by
    simp only [Op.bytesLess, bytesLess_eq x y, List.cons_lt_cons_iff]
    rw [Bool.eq_iff_iff]
    simp
end Go.Proofs.YtnbhneeohkfocaaDoor.Sc
namespace Go.Proofs.YtnbhneeohkfocaaDoor.Sc
open Go Go.RowKit Go.ChangeShapes Go.WideShapes Go.ChangeAt
set_option maxRecDepth 100000

/-- Texts compared. -/
theorem str_beq (a b : ByteArray) : (a.toList == b.toList) = decide (a = b) := by
  by_cases h : a = b
  · subst h; simp
  · rw [decide_eq_false h]
    cases hb : a.toList == b.toList with
    | false => rfl
    | true => exact absurd (bytes_inj (by rw [← ByteArray.toList_eq, ← ByteArray.toList_eq]; exact eq_of_beq hb)) h
theorem str_yes {a b : ByteArray} (h : a = b) : (a.toList == b.toList) = true := by rw [str_beq, decide_eq_true h]
theorem str_no {a b : ByteArray} (h : ¬ a = b) : (a.toList == b.toList) = false := by rw [str_beq, decide_eq_false h]

def chI (c : Int) : Bool := !((decide (c < 97) || decide (122 < c)) && ((decide (c < 48) || decide (57 < c)) && c != 45))
def chOk (b : UInt8) : Bool := chI (b.toNat : Int)
def charsOk (l : List UInt8) : Bool := l.all chOk
def nameOk (s : ByteArray) : Bool := decide (1 ≤ s.size) && (decide (s.size ≤ 16) && charsOk s.data.toList)
theorem chars_step (s : ByteArray) (k : Nat) (h : k < s.size) : charsOk (s.data.toList.drop k) = (chI ((s[k]'h).toNat : Int) && charsOk (s.data.toList.drop (k + 1))) := by
  have hk : k < s.data.toList.length := by rw [Array.length_toList]; exact h
  rw [List.drop_eq_getElem_cons hk]
  have : s.data.toList[k] = s[k]'h := by simp [ByteArray.getElem_eq_getElem_data]
  rw [this]; rfl
theorem chars_end (s : ByteArray) (k : Nat) (h : s.size ≤ k) : charsOk (s.data.toList.drop k) = true := by
  rw [List.drop_eq_nil_of_le (by rw [Array.length_toList]; exact h)]; rfl

end Go.Proofs.YtnbhneeohkfocaaDoor.Sc
namespace Go.Proofs.YtnbhneeohkfocaaDoor.Sc
open Go Go.RowKit Go.ChangeShapes Go.WideShapes Go.ChangeAt
set_option maxRecDepth 100000

def letter (c : Int) : Bool := decide (97 ≤ c) && decide (c ≤ 122)
def digit (c : Int) : Bool := decide (48 ≤ c) && decide (c ≤ 57)
theorem chI_eq (c : Int) : chI c = (letter c || (digit c || decide (c = 45))) := by
  rw [Bool.eq_iff_iff]; simp only [chI, letter, digit, Bool.not_eq_true', Bool.and_eq_false_imp, Bool.or_eq_true, Bool.and_eq_true, decide_eq_true_eq, bne_eq_false_iff_eq]; omega
theorem letter_any (c : Int) (w : World) : Calls Tryd.prog 60 #[.int .u8 c] w (RetB w (letter c)) := by
  go_enter Tryd.func60, Tryd.ntmps60
  go_wp2
  all_goals
    go_ret
    exact retB (by rw [Bool.eq_iff_iff]; simp only [letter, Bool.and_eq_true, decide_eq_true_eq, Bool.false_eq_true, false_iff]; omega) (Below.refl _ _)
theorem digit_any (c : Int) (w : World) : Calls Tryd.prog 61 #[.int .u8 c] w (RetB w (digit c)) := by
  go_enter Tryd.func61, Tryd.ntmps61
  go_wp2
  all_goals
    go_ret
    exact retB (by rw [Bool.eq_iff_iff]; simp only [digit, Bool.and_eq_true, decide_eq_true_eq, Bool.false_eq_true, false_iff]; omega) (Below.refl _ _)

set_option maxHeartbeats 2000000 in
theorem markName_any (s : ByteArray) (w : World) : Calls Tryd.prog 34 #[.string s] w (RetB w (nameOk s)) := by
  by_cases hn : 1 ≤ s.size ∧ s.size ≤ 16
  · obtain ⟨h1, h2⟩ := hn
    have t1 : decide ((s.size : Int) < 1) = false := by simp; omega
    have t2 : decide ((16 : Int) < (s.size : Int)) = false := by simp; omega
    have HN : Hid (nameOk s = charsOk (s.data.toList.drop 0)) := Lib.hid (by simp [nameOk, h1, h2])
    go_enter Tryd.func34, Tryd.ntmps34
    go_wp2
    go_loopw [14] (fun i wr => ∃ k : Nat, k ≤ s.size ∧ i = .int .i64 k ∧ nameOk s = charsOk (s.data.toList.drop k) ∧ Below w.heap.size w wr) (fun i _ => s.size - (intOf i).toNat)
    case atStart => exact ⟨0, Nat.zero_le _, rfl, HN.out, Below.refl _ _⟩
    case round =>
      obtain ⟨k, hk, rfl, hrel, hbel⟩ := hrel
      by_cases hlt : k < s.size
      · rw [chars_step s k hlt, chI_eq] at hrel
        have HR := Lib.hid hrel
        have HBEL := Lib.hid hbel
        clear hrel hbel t1 t2 h1 HN
        have HL := letter_any ((s[k]'hlt).toNat : Int)
        have HD := digit_any ((s[k]'hlt).toNat : Int)
        generalize hlv : letter ((s[k]'hlt).toNat : Int) = bl at HL HR
        generalize hdv : digit ((s[k]'hlt).toNat : Int) = bd at HD HR
        clear hlv hdv
        cases bl <;> cases bd
        all_goals
          go_wp2_with (first
            | ((with_reducible refine (HL _).mono ?_); rintro e w2 ⟨rfl, hb2⟩; have HB2 := Lib.hid (HBEL.out.trans (hb2.mono HBEL.out.size)); clear hb2)
            | ((with_reducible refine (HD _).mono ?_); rintro e w3 ⟨rfl, hb3⟩; have HB3 := Lib.hid (HB2.out.trans (hb3.mono HB2.out.size)); clear hb3)
            | fail)
        all_goals first
          | (go_roundw
             case rel => exact ⟨k + 1, by omega, by go_num, by
                have hr := HR.out
                first
                  | simpa using hr
                  | (generalize ((s[k]'hlt).toNat : Int) = c at *
                     simp at *
                     simp [*]), by first | exact HB3.out | exact HB2.out⟩
             case measure => simp [intOf]; omega)
          | (go_ret
             exact retB (by
                have hr := HR.out
                generalize ((s[k]'hlt).toNat : Int) = c at *
                simp at *
                simp [*]) (by first | exact HB3.out | exact HB2.out))
      · have HR := Lib.hid hrel
        clear hrel
        go_wp2
        go_ret
        exact retB (by rw [HR.out, chars_end s k (by omega)]) hbel
  · have HN : Hid (nameOk s = false) := Lib.hid (by
      simp only [nameOk]
      by_cases h1 : 1 ≤ s.size
      · have h2 : ¬ s.size ≤ 16 := fun h => hn ⟨h1, h⟩
        simp only [h2, decide_false, Bool.false_and, Bool.and_false]
      · simp only [h1, decide_false, Bool.false_and])
    go_enter Tryd.func34, Tryd.ntmps34
    by_cases h1 : 1 ≤ s.size
    · have t1 : decide ((s.size : Int) < 1) = false := by simp; omega
      have t2 : decide ((16 : Int) < (s.size : Int)) = true := by simp; omega
      clear hn
      go_wp2
      go_ret
      exact retB HN.out.symm (Below.refl _ _)
    · have t1 : decide ((s.size : Int) < 1) = true := by simp; omega
      clear hn
      go_wp2
      go_ret
      exact retB HN.out.symm (Below.refl _ _)
end Go.Proofs.YtnbhneeohkfocaaDoor.Sc
