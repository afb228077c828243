/- The contract of a package's 'first': the code of the first check that holds, each check a call of a function value. The contract of the register's 'first'. A bill of the register in memory; what is asked of its originals. Maps whose keys are structs: a map's block told as a row of keys and elements; looked up, and one entry more. No program in sight. -/
import Derived.Test.YtbigoifpfkdkjaaGreatDoorTe01
import Derived.Test.YtbigoifpfkdkjaaGreatDoorTe06
import Derived.Test.YtbigoifpfkdkjaaGreatDoorTe02
import Derived.Test.YtbigoifpfkdkjaaGreatDoorTe03
import Derived.Shelf.Abstract
import Derived.Maps.Keyed
namespace Go.Proofs.YtbigoifpfkdkjaaGreatDoor.Sc
open Go Go.RowKit Go.ChangeShapes Go.WideShapes Go.ChangeAt
set_option maxRecDepth 100000

section
variable {ops : Array Oper} {rest : List Oper} {a : Act} {w : World} {Q : Exit → Act → World → Prop} {dst : Option Tmp} {t : TypeId} {pos : String} {after : Array Edge} {gd : Option (Nat × Bool)}
/-- A call of a function value without arguments. -/
theorem call_dyn (x : Operand) (k : FuncId) (caps : Array Value) {R : Ending → World → Prop} (hw : Region.wanted ⟨dst, .call ⟨.value x, #[], #[]⟩, t, pos, after, gd⟩ (yielded ops a.tmps) = true)
    (hx : a.eval x = .func (.func k) #[] caps) (hgo : ∀ w, (callFunc k caps).run Tryz.prog w = .ok (.enter k caps) w)
    (hc : Calls Tryz.prog k caps w R) (h : ∀ e w', R e w' → ∃ v, e = .returned v ∧ wpList Tryz.prog ops Q rest (a.put dst v) w') :
    wpList Tryz.prog ops Q (⟨dst, .call ⟨.value x, #[], #[]⟩, t, pos, after, gd⟩ :: rest) a w := by
  refine wpList_step fun K hK => ?_
  rw [if_pos hw]
  unfold Oper.wp
  have hr : (execOp a.eval ⟨dst, .call ⟨.value x, #[], #[]⟩, t, pos, after, gd⟩).run Tryz.prog w = .ok (.enter k caps) w := by
    simp [execOp, resolve, hx, Deferred.ofValue, invoke, hgo]
  rw [hr]
  refine hc.mono fun e w' he => ?_
  obtain ⟨v, rfl, hv⟩ := h e w' he
  exact hK _ _ hv
end

/-- The code of the first that holds, from number i on. -/
def firstFrom (code : Nat → Int) (b : Nat → Bool) : Nat → Nat → Int
  | 0, _ => 0
  | n + 1, i => if b i then code i else firstFrom code b n (i + 1)

set_option maxHeartbeats 1000000 in
theorem first_gen (n : Nat) (hn : n ≤ 64) (blk0 : Nat) (code : Nat → Int) (k : Nat → FuncId) (cap : Nat → Array Value) (b : Nat → Bool) (I : Nat → World → Prop) (J : World → Prop) (w : World)
    (hI : I 0 w) (hgo : ∀ i, i < n → ∀ w, (callFunc (k i) (cap i)).run Tryz.prog w = .ok (.enter (k i) (cap i)) w)
    (hcell : ∀ i w', i < n → I i w' → w'.cell? ⟨blk0, 2 * i, none⟩ = some (.int .i64 (code i)) ∧ w'.cell? ⟨blk0, 2 * i + 1, none⟩ = some (.func (.func (k i)) #[] (cap i)))
    (hnew : ∀ i w' o, I i w' → I i (World.alloc w' o))
    (hcall : ∀ i w', i < n → I i w' → Calls Tryz.prog (k i) (cap i) w' fun e w'' => e = .returned (.bool (b i)) ∧ (b i = false → I (i + 1) w'') ∧ (b i = true → J w'') ∧ w''.cell? ⟨w'.heap.size - 1, 0, none⟩ = w'.cell? ⟨w'.heap.size - 1, 0, none⟩)
    (hend : ∀ w', I n w' → J w') :
    Calls Tryz.prog 46 #[.slice (some ⟨blk0, 0, none⟩) n n] w fun e w' => e = .returned (.int .i64 (firstFrom code b n 0)) ∧ J w' := by
  go_enter Tryz.func46, Tryz.ntmps46
  go_wp2
  have HGO := Lib.hid hgo
  have HCELL := Lib.hid hcell
  have HNEW := Lib.hid hnew
  have HCALL := Lib.hid hcall
  have hend := Lib.hid hend
  clear hgo hcell hnew hcall
  go_loopw [7] (fun i wr => ∃ j : Nat, j ≤ n ∧ i = .int .i64 j ∧ I j wr ∧ firstFrom code b n 0 = firstFrom code b (n - j) j) (fun i _ => n - (intOf i).toNat)
  case atStart => exact ⟨0, Nat.zero_le _, rfl, hI, rfl⟩
  case round =>
    obtain ⟨j, hj, rfl, hIj, hff⟩ := hrel
    have HFF := Lib.hid hff
    clear hff
    by_cases hlt : j < n
    · obtain ⟨c0, c1⟩ := HCELL.out j wr hlt hIj
      rw [Nat.mul_comm] at c0 c1
      have hI2 := HNEW.out j wr (.cells #[.int .i64 (code j), .func (.func (k j)) #[] (cap j)] 129) hIj
      have hgo := HGO.out j hlt
      have GO := Lib.hid hgo
      clear hgo
      have hstep : firstFrom code b (n - j) j = if b j then code j else firstFrom code b (n - (j + 1)) (j + 1) := by
        rw [show n - j = (n - (j + 1)) + 1 from by omega]; rfl
      have HS := Lib.hid hstep
      clear hstep
      have hc := HCALL.out j _ hlt hI2
      have HC := Lib.hid hc
      clear hc
      have h0 := heap_alloc_new wr (.cells #[.int .i64 (code j), .func (.func (k j)) #[] (cap j)] 129)
      have CB : Hid ((wr.alloc (.cells #[.int .i64 (code j), .func (.func (k j)) #[] (cap j)] 129)).cell? ⟨wr.heap.size, 0, none⟩ = some (.int .i64 (code j))) := Lib.hid (by rw [World.cell?_alloc_at _ _ _ _ rfl]; rfl)
      have HCELL2 : Hid (∀ w' : World, w'.cell? ⟨(wr.alloc (.cells #[.int .i64 (code j), .func (.func (k j)) #[] (cap j)] 129)).heap.size - 1, 0, none⟩ = (wr.alloc (.cells #[.int .i64 (code j), .func (.func (k j)) #[] (cap j)] 129)).cell? ⟨(wr.alloc (.cells #[.int .i64 (code j), .func (.func (k j)) #[] (cap j)] 129)).heap.size - 1, 0, none⟩ → w'.cell? ⟨wr.heap.size, 0, none⟩ = some (.int .i64 (code j))) := Lib.hid (fun w' h => by
        have e : (wr.alloc (.cells #[.int .i64 (code j), .func (.func (k j)) #[] (cap j)] 129)).heap.size - 1 = wr.heap.size := by simp
        rw [e] at h
        exact h.trans CB.out)
      generalize code j = cj at *
      generalize k j = kj at *
      generalize cap j = capj at *
      cases hb : b j
      · have HB := Lib.hid hb
        clear hb
        go_wp2_with (first | (refine call_dyn (.tmp 12) kj capj rfl rfl GO.out HC.out ?_; rintro e w' ⟨rfl, hI3, hJ3, hbel⟩; refine ⟨_, rfl, ?_⟩; rw [HB.out]; clear hJ3 hbel) | fail)
        go_roundw
        case rel => exact ⟨j + 1, by omega, by go_num, hI3 HB.out, by rw [HFF.out, HS.out, HB.out]; rfl⟩
        case measure => simp [intOf]; omega
      · have HB := Lib.hid hb
        clear hb
        go_wp2_with (first | (refine call_dyn (.tmp 12) kj capj rfl rfl GO.out HC.out ?_; rintro e w' ⟨rfl, hI3, hJ3, hbel⟩; refine ⟨_, rfl, ?_⟩; rw [HB.out]; have q0 : w'.cell? ⟨wr.heap.size, 0, none⟩ = some (.int .i64 cj) := HCELL2.out w' hbel; clear hI3 hbel) | fail)
        go_ret
        exact ⟨by rw [HFF.out, HS.out, HB.out]; rfl, hJ3 HB.out⟩
    · have hjn : j = n := by omega
      subst hjn
      go_wp2
      go_ret
      exact ⟨by rw [HFF.out, Nat.sub_self]; rfl, hend.out _ hIj⟩
end Go.Proofs.YtbigoifpfkdkjaaGreatDoor.Sc
namespace Go.Proofs.YtbigoifpfkdkjaaGreatDoor.Sc
open Go Go.RowKit Go.ChangeShapes Go.WideShapes Go.ChangeAt
set_option maxRecDepth 100000

set_option maxHeartbeats 1000000 in
theorem firstR_gen (n : Nat) (hn : n ≤ 64) (blk0 : Nat) (code : Nat → Int) (k : Nat → FuncId) (cap : Nat → Array Value) (b : Nat → Bool) (I : Nat → World → Prop) (J : World → Prop) (w : World)
    (hI : I 0 w) (hgo : ∀ i, i < n → ∀ w, (callFunc (k i) (cap i)).run Tryz.prog w = .ok (.enter (k i) (cap i)) w)
    (hcell : ∀ i w', i < n → I i w' → w'.cell? ⟨blk0, 2 * i, none⟩ = some (.int .i64 (code i)) ∧ w'.cell? ⟨blk0, 2 * i + 1, none⟩ = some (.func (.func (k i)) #[] (cap i)))
    (hnew : ∀ i w' o, I i w' → I i (World.alloc w' o))
    (hcall : ∀ i w', i < n → I i w' → Calls Tryz.prog (k i) (cap i) w' fun e w'' => e = .returned (.bool (b i)) ∧ (b i = false → I (i + 1) w'') ∧ (b i = true → J w'') ∧ w''.cell? ⟨w'.heap.size - 1, 0, none⟩ = w'.cell? ⟨w'.heap.size - 1, 0, none⟩)
    (hend : ∀ w', I n w' → J w') :
    Calls Tryz.prog 61 #[.slice (some ⟨blk0, 0, none⟩) n n] w fun e w' => e = .returned (.int .i64 (firstFrom code b n 0)) ∧ J w' := by
  go_enter Tryz.func61, Tryz.ntmps61
  go_wp2
  have HGO := Lib.hid hgo
  have HCELL := Lib.hid hcell
  have HNEW := Lib.hid hnew
  have HCALL := Lib.hid hcall
  have hend := Lib.hid hend
  clear hgo hcell hnew hcall
  go_loopw [7] (fun i wr => ∃ j : Nat, j ≤ n ∧ i = .int .i64 j ∧ I j wr ∧ firstFrom code b n 0 = firstFrom code b (n - j) j) (fun i _ => n - (intOf i).toNat)
  case atStart => exact ⟨0, Nat.zero_le _, rfl, hI, rfl⟩
  case round =>
    obtain ⟨j, hj, rfl, hIj, hff⟩ := hrel
    have HFF := Lib.hid hff
    clear hff
    by_cases hlt : j < n
    · obtain ⟨c0, c1⟩ := HCELL.out j wr hlt hIj
      rw [Nat.mul_comm] at c0 c1
      have hI2 := HNEW.out j wr (.cells #[.int .i64 (code j), .func (.func (k j)) #[] (cap j)] 142) hIj
      have hgo := HGO.out j hlt
      have GO := Lib.hid hgo
      clear hgo
      have hstep : firstFrom code b (n - j) j = if b j then code j else firstFrom code b (n - (j + 1)) (j + 1) := by
        rw [show n - j = (n - (j + 1)) + 1 from by omega]; rfl
      have HS := Lib.hid hstep
      clear hstep
      have hc := HCALL.out j _ hlt hI2
      have HC := Lib.hid hc
      clear hc
      have h0 := heap_alloc_new wr (.cells #[.int .i64 (code j), .func (.func (k j)) #[] (cap j)] 142)
      have CB : Hid ((wr.alloc (.cells #[.int .i64 (code j), .func (.func (k j)) #[] (cap j)] 142)).cell? ⟨wr.heap.size, 0, none⟩ = some (.int .i64 (code j))) := Lib.hid (by rw [World.cell?_alloc_at _ _ _ _ rfl]; rfl)
      have HCELL2 : Hid (∀ w' : World, w'.cell? ⟨(wr.alloc (.cells #[.int .i64 (code j), .func (.func (k j)) #[] (cap j)] 142)).heap.size - 1, 0, none⟩ = (wr.alloc (.cells #[.int .i64 (code j), .func (.func (k j)) #[] (cap j)] 142)).cell? ⟨(wr.alloc (.cells #[.int .i64 (code j), .func (.func (k j)) #[] (cap j)] 142)).heap.size - 1, 0, none⟩ → w'.cell? ⟨wr.heap.size, 0, none⟩ = some (.int .i64 (code j))) := Lib.hid (fun w' h => by
        have e : (wr.alloc (.cells #[.int .i64 (code j), .func (.func (k j)) #[] (cap j)] 142)).heap.size - 1 = wr.heap.size := by simp
        rw [e] at h
        exact h.trans CB.out)
      generalize code j = cj at *
      generalize k j = kj at *
      generalize cap j = capj at *
      cases hb : b j
      · have HB := Lib.hid hb
        clear hb
        go_wp2_with (first | (refine call_dyn (.tmp 12) kj capj rfl rfl GO.out HC.out ?_; rintro e w' ⟨rfl, hI3, hJ3, hbel⟩; refine ⟨_, rfl, ?_⟩; rw [HB.out]; clear hJ3 hbel) | fail)
        go_roundw
        case rel => exact ⟨j + 1, by omega, by go_num, hI3 HB.out, by rw [HFF.out, HS.out, HB.out]; rfl⟩
        case measure => simp [intOf]; omega
      · have HB := Lib.hid hb
        clear hb
        go_wp2_with (first | (refine call_dyn (.tmp 12) kj capj rfl rfl GO.out HC.out ?_; rintro e w' ⟨rfl, hI3, hJ3, hbel⟩; refine ⟨_, rfl, ?_⟩; rw [HB.out]; have q0 : w'.cell? ⟨wr.heap.size, 0, none⟩ = some (.int .i64 cj) := HCELL2.out w' hbel; clear hI3 hbel) | fail)
        go_ret
        exact ⟨by rw [HFF.out, HS.out, HB.out]; rfl, hJ3 HB.out⟩
    · have hjn : j = n := by omega
      subst hjn
      go_wp2
      go_ret
      exact ⟨by rw [HFF.out, Nat.sub_self]; rfl, hend.out _ hIj⟩
end Go.Proofs.YtbigoifpfkdkjaaGreatDoor.Sc
namespace Go.Proofs.YtbigoifpfkdkjaaGreatDoor.Sc
open Go Go.RowKit Go.ChangeShapes Go.WideShapes Go.ChangeAt
set_option maxRecDepth 100000

/-- An original: its state, who holds it, its chain. -/
structure Og where
  st : Int
  hd : ByteArray
  ch : List Ed
def ogC (o : Og) (v : Value) : Array Value := #[.int .i64 o.st, .string o.hd, v]
/-- The bill's state, and its originals. -/
structure En where
  st : Int
  o0 : Og
  o1 : Og
  o2 : Og
def En.cells (E : En) (vb vp v0 v1 v2 : Value) : Array Value := #[.string ⟨#[98, 49]⟩, .string ⟨#[108, 105, 110, 101]⟩, .string ⟨#[115]⟩, .string ⟨#[114, 105, 103, 97]⟩, .string ⟨#[111, 115, 108, 111]⟩, vb, vp, .int .i64 0, .bool false, .int .i64 E.st, .int .i64 E.o0.st, .string E.o0.hd, v0, .int .i64 E.o1.st, .string E.o1.hd, v1, .int .i64 E.o2.st, .string E.o2.hd, v2]
def lastD (o : Og) (issued : Int) : Int := (o.ch.getLast?.map Ed.day).getD issued
set_option maxHeartbeats 2000000 in
theorem last_any (o : Og) (v : Value) (issued : Int) (w : World) (hs : Sl w 4 v (o.ch.map Ed.row)) : Calls Tryz.prog 138 #[.agg (ogC o v), .int .i64 issued] w (Ret w (.int .i64 (lastD o issued))) := by
  obtain ⟨st, hd, l⟩ := o
  simp only at hs
  obtain ⟨a, c, rfl⟩ : ∃ a c, v = .slice a l.length c := by simpa using hs.shape
  have hll : l.length ≤ 9223372036854775807 := by have := hs.len_le; simp only [List.length_map, maxLen] at this; omega
  have HX := Lib.hid (heap_alloc_new w (.cells #[.int .i64 st, .string hd, .slice a l.length c] 149))
  have HB := Lib.hid (one_below w (.cells #[.int .i64 st, .string hd, .slice a l.length c] 149))
  have hs1 := hs.below HB.out (Nat.le_refl _)
  simp only [ogC]
  by_cases hn : l.length = 0
  · have hl : l = [] := List.eq_nil_of_length_eq_zero hn
    have HV : Hid (lastD ⟨st, hd, l⟩ issued = issued) := Lib.hid (by rw [hl]; rfl)
    have t1 : ((l.length : Int) == 0) = true := by simp [hn]
    clear hs hs1 hl hn
    go_enter Tryz.func138, Tryz.ntmps138
    go_wp2_with fail
    go_ret
    exact ⟨by rw [HV.out]; rfl, HB.out⟩
  · obtain ⟨j, hj⟩ : ∃ j, l.length = j + 1 := ⟨l.length - 1, by omega⟩
    have t1 : ((l.length : Int) == 0) = false := by rw [beq_eq_false_iff_ne]; omega
    have hlt : j < l.length := by omega
    have HV : Hid (lastD ⟨st, hd, l⟩ issued = l[j].day) := Lib.hid (by simp [lastD, List.getLast?_eq_getElem?, hj])
    obtain ⟨b, off, rfl, hb, d0, d1, d2, d3⟩ := ed_at hs1 hlt
    have f1 : IntKind.i64.wrap ((l.length : Int) - 1) = (j : Int) := by rw [IntWalk.i64_in _ (by omega)]; omega
    have tj : (j : Int) < (l.length : Int) := by omega
    have f2 : ((l.length : Int) - 1) = (j : Int) := by omega
    generalize l[j].day = y at *
    clear hs hs1 hn hj d0 d1 d2 hb hlt
    go_enter Tryz.func138, Tryz.ntmps138
    go_wp2_with fail
    go_ret
    exact ⟨by rw [HV.out]; rfl, HB.out⟩
theorem isDay_any (d : Int) (w : World) : Calls Tryz.prog 123 #[.int .i64 d] w (RetB w (decide (0 ≤ d) && decide (d ≤ 1048576))) := by
  go_enter Tryz.func123, Tryz.ntmps123
  go_wp2
  all_goals
    go_ret
    exact retB (by rw [Bool.eq_iff_iff]; simp only [Bool.and_eq_true, decide_eq_true_eq, Bool.false_eq_true, false_iff]; omega) (Below.refl _ _)
/-- Does it hold of one of those that an index tells? -/
def someB (idx : Int) (f : Nat → Bool) : Bool := ((idx == -1 || idx == 0) && f 0) || (((idx == -1 || idx == 1) && f 1) || ((idx == -1 || idx == 2) && f 2))
theorem run_og (w : World) (a0 a1 a2 b0 b1 b2 c0 c1 c2 : Value) (k : Nat) (h : k < 3) : (Instr.index 150 (.agg #[a0, a1, a2, b0, b1, b2, c0, c1, c2]) (.int .i64 k)).run Tryz.prog w = .ok (.agg (if k = 0 then #[a0, a1, a2] else if k = 1 then #[b0, b1, b2] else #[c0, c1, c2])) w := by
  obtain rfl | rfl | rfl : k = 0 ∨ k = 1 ∨ k = 2 := by omega
  all_goals kernel_rfl
def restB (idx : Int) (f0 f1 f2 : Bool) (k : Nat) : Bool := if k = 0 then ((idx == -1 || idx == 0) && f0) || (((idx == -1 || idx == 1) && f1) || ((idx == -1 || idx == 2) && f2)) else if k = 1 then ((idx == -1 || idx == 1) && f1) || ((idx == -1 || idx == 2) && f2) else if k = 2 then (idx == -1 || idx == 2) && f2 else false
def En.og (E : En) (k : Nat) : Og := if k = 0 then E.o0 else if k = 1 then E.o1 else E.o2
def vOf (v0 v1 v2 : Value) (k : Nat) : Value := if k = 0 then v0 else if k = 1 then v1 else v2
set_option maxHeartbeats 4000000 in
theorem some_any (E : En) (be : Nat) (vb vp v0 v1 v2 : Value) (idx : Int) (g : Nat) (cb : Array Value) (f : Nat → Bool) (w : World) (hx : w.heap[be]? = some (.cells (E.cells vb vp v0 v1 v2) 152 (0, 0)))
    (h0 : ∃ a n c, v0 = .slice a n c) (h1 : ∃ a n c, v1 = .slice a n c) (h2 : ∃ a n c, v2 = .slice a n c)
    (eg : ∀ args w, (callFunc g args).run Tryz.prog w = .ok (.enter g args) w) (hcl : ∀ k W, k < 3 → Below w.heap.size w W → Calls Tryz.prog g (#[.agg (ogC (E.og k) (vOf v0 v1 v2 k))] ++ cb) W (RetB W (f k))) :
    Calls Tryz.prog 132 #[.pointer (some ⟨be, 0, none⟩), .int .i64 idx, .func (.func g) #[] cb] w (RetB w (someB idx f)) := by
  obtain ⟨a0, n0, c0, rfl⟩ := h0
  obtain ⟨a1, n1, c1, rfl⟩ := h1
  obtain ⟨a2, n2, c2, rfl⟩ := h2
  have HC0 := Lib.hid (fun W (hW : Below w.heap.size w W) => hcl 0 W (by decide) hW)
  have HC1 := Lib.hid (fun W (hW : Below w.heap.size w W) => hcl 1 W (by decide) hW)
  have HC2 := Lib.hid (fun W (hW : Below w.heap.size w W) => hcl 2 W (by decide) hW)
  have d10 : w.cell? ⟨be, 10, none⟩ = some (.int .i64 E.o0.st) := cell_blk hx 10
  have d11 : w.cell? ⟨be, 11, none⟩ = some (.string E.o0.hd) := cell_blk hx 11
  have d12 : w.cell? ⟨be, 12, none⟩ = some (.slice a0 n0 c0) := cell_blk hx 12
  have d13 : w.cell? ⟨be, 13, none⟩ = some (.int .i64 E.o1.st) := cell_blk hx 13
  have d14 : w.cell? ⟨be, 14, none⟩ = some (.string E.o1.hd) := cell_blk hx 14
  have d15 : w.cell? ⟨be, 15, none⟩ = some (.slice a1 n1 c1) := cell_blk hx 15
  have d16 : w.cell? ⟨be, 16, none⟩ = some (.int .i64 E.o2.st) := cell_blk hx 16
  have d17 : w.cell? ⟨be, 17, none⟩ = some (.string E.o2.hd) := cell_blk hx 17
  have d18 : w.cell? ⟨be, 18, none⟩ = some (.slice a2 n2 c2) := cell_blk hx 18
  have ei := Lib.hid (fun W => run_og W (.int .i64 E.o0.st) (.string E.o0.hd) (.slice a0 n0 c0) (.int .i64 E.o1.st) (.string E.o1.hd) (.slice a1 n1 c1) (.int .i64 E.o2.st) (.string E.o2.hd) (.slice a2 n2 c2))
  have e0 : E.og 0 = E.o0 := rfl
  have e1 : E.og 1 = E.o1 := rfl
  have e2 : E.og 2 = E.o2 := rfl
  simp only [ogC, e0, e1, e2, vOf, if_true, show ¬ ((1 : Nat) = 0) by decide, show ¬ ((2 : Nat) = 0) by decide, show ¬ ((2 : Nat) = 1) by decide, if_false] at HC0 HC1 HC2
  generalize E.o0.st = s0 at *
  generalize E.o0.hd = g0 at *
  generalize E.o1.st = s1 at *
  generalize E.o1.hd = g1 at *
  generalize E.o2.st = s2 at *
  generalize E.o2.hd = g2 at *
  clear hx hcl e0 e1 e2
  obtain ⟨sv, hsv⟩ : ∃ sv, sv = someB idx f := ⟨_, rfl⟩
  have HSV := Lib.hid hsv
  unfold someB at hsv
  rw [← HSV.out]
  generalize f 0 = f0 at *
  generalize f 1 = f1 at *
  generalize f 2 = f2 at *
  have HV := Lib.hid hsv
  clear hsv
  go_enter Tryz.func132, Tryz.ntmps132
  go_wp2_with fail
  go_loopw [7, 8, 13] (fun _ _ i wr => ∃ k : Nat, k ≤ 3 ∧ i = .int .i64 k ∧ sv = restB idx f0 f1 f2 k ∧ Below w.heap.size w wr) (fun _ _ i _ => 3 - (intOf i).toNat)
  case atStart => exact ⟨0, by decide, rfl, HV.out, Below.refl _ _⟩
  case round =>
    obtain ⟨k, hk, rfl, hr, hbel⟩ := hrel
    have HBEL := Lib.hid hbel
    have HR := Lib.hid hr
    clear hr hbel d10 d11 d12 d13 d14 d15 d16 d17 d18
    obtain rfl | rfl | rfl | rfl : k = 0 ∨ k = 1 ∨ k = 2 ∨ k = 3 := by omega
    · have ei0 : ∀ W : World, (Instr.index 150 (.agg #[.int .i64 s0, .string g0, .slice a0 n0 c0, .int .i64 s1, .string g1, .slice a1 n1 c1, .int .i64 s2, .string g2, .slice a2 n2 c2]) (.int .i64 0)).run Tryz.prog W = .ok (.agg #[.int .i64 s0, .string g0, .slice a0 n0 c0]) W := fun W => ei.out W 0 (by decide)
      have HBA := Lib.hid (HBEL.out.trans ((one_below wr (.cells #[.int .i64 s0, .string g0, .slice a0 n0 c0] 149)).mono HBEL.out.size))
      cases hm : (idx == -1)
      · cases hk2 : (idx == 0)
        · have HT := Lib.hid (And.intro hm hk2)
          go_wp2_with fail
          go_roundw
          case rel => exact ⟨1, by decide, rfl, by rw [HR.out]; simp [restB, HT.out.1, HT.out.2], HBA.out⟩
          case measure => simp [intOf]
        · have HT := Lib.hid hk2
          cases hf : f0
          · have HT2 := Lib.hid hf
            rw [hf] at HC0
            clear hf
            go_wp2_with (first
                | (go_at_fn g; refine (HC0.out _ HBA.out).mono ?_; rintro e w2 ⟨rfl, hb2⟩; have HB2 := Lib.hid (HBA.out.trans (hb2.mono HBA.out.size)); clear hb2)
                | fail)
            go_roundw
            case rel => exact ⟨1, by decide, rfl, by rw [HR.out]; simp [restB, HT.out, HT2.out], HB2.out⟩
            case measure => simp [intOf]
          · have HT2 := Lib.hid hf
            rw [hf] at HC0
            clear hf
            go_wp2_with (first
                | (go_at_fn g; refine (HC0.out _ HBA.out).mono ?_; rintro e w2 ⟨rfl, hb2⟩; have HB2 := Lib.hid (HBA.out.trans (hb2.mono HBA.out.size)); clear hb2)
                | fail)
            go_ret
            exact retB (by rw [HR.out]; simp [restB, HT.out, HT2.out]) HB2.out
      · · have HT := Lib.hid hm
          cases hf : f0
          · have HT2 := Lib.hid hf
            rw [hf] at HC0
            clear hf
            go_wp2_with (first
                | (go_at_fn g; refine (HC0.out _ HBA.out).mono ?_; rintro e w2 ⟨rfl, hb2⟩; have HB2 := Lib.hid (HBA.out.trans (hb2.mono HBA.out.size)); clear hb2)
                | fail)
            go_roundw
            case rel => exact ⟨1, by decide, rfl, by rw [HR.out]; simp [restB, HT.out, HT2.out], HB2.out⟩
            case measure => simp [intOf]
          · have HT2 := Lib.hid hf
            rw [hf] at HC0
            clear hf
            go_wp2_with (first
                | (go_at_fn g; refine (HC0.out _ HBA.out).mono ?_; rintro e w2 ⟨rfl, hb2⟩; have HB2 := Lib.hid (HBA.out.trans (hb2.mono HBA.out.size)); clear hb2)
                | fail)
            go_ret
            exact retB (by rw [HR.out]; simp [restB, HT.out, HT2.out]) HB2.out
    · have ei1 : ∀ W : World, (Instr.index 150 (.agg #[.int .i64 s0, .string g0, .slice a0 n0 c0, .int .i64 s1, .string g1, .slice a1 n1 c1, .int .i64 s2, .string g2, .slice a2 n2 c2]) (.int .i64 1)).run Tryz.prog W = .ok (.agg #[.int .i64 s1, .string g1, .slice a1 n1 c1]) W := fun W => ei.out W 1 (by decide)
      have HBA := Lib.hid (HBEL.out.trans ((one_below wr (.cells #[.int .i64 s1, .string g1, .slice a1 n1 c1] 149)).mono HBEL.out.size))
      cases hm : (idx == -1)
      · cases hk2 : (idx == 1)
        · have HT := Lib.hid (And.intro hm hk2)
          go_wp2_with fail
          go_roundw
          case rel => exact ⟨2, by decide, rfl, by rw [HR.out]; simp [restB, HT.out.1, HT.out.2], HBA.out⟩
          case measure => simp [intOf]
        · have HT := Lib.hid hk2
          cases hf : f1
          · have HT2 := Lib.hid hf
            rw [hf] at HC1
            clear hf
            go_wp2_with (first
                | (go_at_fn g; refine (HC1.out _ HBA.out).mono ?_; rintro e w2 ⟨rfl, hb2⟩; have HB2 := Lib.hid (HBA.out.trans (hb2.mono HBA.out.size)); clear hb2)
                | fail)
            go_roundw
            case rel => exact ⟨2, by decide, rfl, by rw [HR.out]; simp [restB, HT.out, HT2.out], HB2.out⟩
            case measure => simp [intOf]
          · have HT2 := Lib.hid hf
            rw [hf] at HC1
            clear hf
            go_wp2_with (first
                | (go_at_fn g; refine (HC1.out _ HBA.out).mono ?_; rintro e w2 ⟨rfl, hb2⟩; have HB2 := Lib.hid (HBA.out.trans (hb2.mono HBA.out.size)); clear hb2)
                | fail)
            go_ret
            exact retB (by rw [HR.out]; simp [restB, HT.out, HT2.out]) HB2.out
      · · have HT := Lib.hid hm
          cases hf : f1
          · have HT2 := Lib.hid hf
            rw [hf] at HC1
            clear hf
            go_wp2_with (first
                | (go_at_fn g; refine (HC1.out _ HBA.out).mono ?_; rintro e w2 ⟨rfl, hb2⟩; have HB2 := Lib.hid (HBA.out.trans (hb2.mono HBA.out.size)); clear hb2)
                | fail)
            go_roundw
            case rel => exact ⟨2, by decide, rfl, by rw [HR.out]; simp [restB, HT.out, HT2.out], HB2.out⟩
            case measure => simp [intOf]
          · have HT2 := Lib.hid hf
            rw [hf] at HC1
            clear hf
            go_wp2_with (first
                | (go_at_fn g; refine (HC1.out _ HBA.out).mono ?_; rintro e w2 ⟨rfl, hb2⟩; have HB2 := Lib.hid (HBA.out.trans (hb2.mono HBA.out.size)); clear hb2)
                | fail)
            go_ret
            exact retB (by rw [HR.out]; simp [restB, HT.out, HT2.out]) HB2.out
    · have ei2 : ∀ W : World, (Instr.index 150 (.agg #[.int .i64 s0, .string g0, .slice a0 n0 c0, .int .i64 s1, .string g1, .slice a1 n1 c1, .int .i64 s2, .string g2, .slice a2 n2 c2]) (.int .i64 2)).run Tryz.prog W = .ok (.agg #[.int .i64 s2, .string g2, .slice a2 n2 c2]) W := fun W => ei.out W 2 (by decide)
      have HBA := Lib.hid (HBEL.out.trans ((one_below wr (.cells #[.int .i64 s2, .string g2, .slice a2 n2 c2] 149)).mono HBEL.out.size))
      cases hm : (idx == -1)
      · cases hk2 : (idx == 2)
        · have HT := Lib.hid (And.intro hm hk2)
          go_wp2_with fail
          go_roundw
          case rel => exact ⟨3, by decide, rfl, by rw [HR.out]; simp [restB, HT.out.1, HT.out.2], HBA.out⟩
          case measure => simp [intOf]
        · have HT := Lib.hid hk2
          cases hf : f2
          · have HT2 := Lib.hid hf
            rw [hf] at HC2
            clear hf
            go_wp2_with (first
                | (go_at_fn g; refine (HC2.out _ HBA.out).mono ?_; rintro e w2 ⟨rfl, hb2⟩; have HB2 := Lib.hid (HBA.out.trans (hb2.mono HBA.out.size)); clear hb2)
                | fail)
            go_roundw
            case rel => exact ⟨3, by decide, rfl, by rw [HR.out]; simp [restB, HT.out, HT2.out], HB2.out⟩
            case measure => simp [intOf]
          · have HT2 := Lib.hid hf
            rw [hf] at HC2
            clear hf
            go_wp2_with (first
                | (go_at_fn g; refine (HC2.out _ HBA.out).mono ?_; rintro e w2 ⟨rfl, hb2⟩; have HB2 := Lib.hid (HBA.out.trans (hb2.mono HBA.out.size)); clear hb2)
                | fail)
            go_ret
            exact retB (by rw [HR.out]; simp [restB, HT.out, HT2.out]) HB2.out
      · · have HT := Lib.hid hm
          cases hf : f2
          · have HT2 := Lib.hid hf
            rw [hf] at HC2
            clear hf
            go_wp2_with (first
                | (go_at_fn g; refine (HC2.out _ HBA.out).mono ?_; rintro e w2 ⟨rfl, hb2⟩; have HB2 := Lib.hid (HBA.out.trans (hb2.mono HBA.out.size)); clear hb2)
                | fail)
            go_roundw
            case rel => exact ⟨3, by decide, rfl, by rw [HR.out]; simp [restB, HT.out, HT2.out], HB2.out⟩
            case measure => simp [intOf]
          · have HT2 := Lib.hid hf
            rw [hf] at HC2
            clear hf
            go_wp2_with (first
                | (go_at_fn g; refine (HC2.out _ HBA.out).mono ?_; rintro e w2 ⟨rfl, hb2⟩; have HB2 := Lib.hid (HBA.out.trans (hb2.mono HBA.out.size)); clear hb2)
                | fail)
            go_ret
            exact retB (by rw [HR.out]; simp [restB, HT.out, HT2.out]) HB2.out
    · go_wp2_with fail
      go_ret
      exact retB (by rw [HR.out]; rfl) HBEL.out
end Go.Proofs.YtbigoifpfkdkjaaGreatDoor.Sc
namespace Go.Proofs.YtbigoifpfkdkjaaGreatDoor.Km
open Go Go.RowKit
set_option maxRecDepth 100000

section
variable {α : Type}
def kget [DecidableEq α] : List (α × Value) → α → Option Value
  | [], _ => none
  | p :: r, a => if a = p.1 then some p.2 else kget r a
theorem kget_append [DecidableEq α] (l : List (α × Value)) (a b : α) (v : Value) : kget (l ++ [(b, v)]) a = match kget l a with | some u => some u | none => if a = b then some v else none := by
  induction l with
  | nil => simp [kget]
  | cons p r ih =>
    simp only [List.cons_append, kget]
    split
    · rfl
    · exact ih
def Likes (enc : α → Value) : List MapEntry → List (α × Value) → Prop
  | [], [] => True
  | e :: es, p :: l => (e.key = enc p.1 ∧ e.val = p.2) ∧ Likes enc es l
  | _, _ => False
variable {enc : α → Value}
theorem Likes.snoc : ∀ {es : List MapEntry} {l : List (α × Value)} {e : MapEntry} {p : α × Value}, Likes enc es l → e.key = enc p.1 → e.val = p.2 → Likes enc (es ++ [e]) (l ++ [p])
  | [], [], _, _, _, h1, h2 => ⟨⟨h1, h2⟩, trivial⟩
  | _ :: _, _ :: _, _, _, h, h1, h2 => ⟨h.1, Likes.snoc h.2 h1 h2⟩
/-- Block b is a map of just these entries; its keys are keys. -/
def KMapAt (P : Program) (k : TypeId) (enc : α → Value) (w : World) (b : Nat) (l : List (α × Value)) : Prop :=
  ∃ es clock, w.heap[b]? = some (.map es clock) ∧ Likes enc es.toList l ∧ ∀ e ∈ es.toList, ∃ x, keyOf P k e.key = some x
theorem KMapAt.lt {P : Program} {k : TypeId} {w : World} {b : Nat} {l : List (α × Value)} (h : KMapAt P k enc w b l) : b < w.heap.size := by
  obtain ⟨es, clock, hb, _⟩ := h
  exact (Array.getElem?_eq_some_iff.1 hb).1
theorem KMapAt.same {P : Program} {k : TypeId} {w w' : World} {b : Nat} {l : List (α × Value)} (h : KMapAt P k enc w b l) (he : w'.heap[b]? = w.heap[b]?) : KMapAt P k enc w' b l := by
  obtain ⟨es, clock, hb, r⟩ := h
  exact ⟨es, clock, he.trans hb, r⟩
theorem KMapAt.made (P : Program) (k : TypeId) (w : World) : KMapAt P k enc (w.alloc (.map #[] 0)) w.heap.size [] := ⟨#[], 0, heap_alloc_new w _, trivial, by simp⟩

end
section
variable {α : Type} [DecidableEq α] {enc : α → Value} {P : Program} {w : World} {t k e : TypeId}
theorem mem_get {es : List MapEntry} {l : List (α × Value)} (hnd : (l.map Prod.fst).Nodup) (inj : ∀ a b, enc a = enc b → a = b) (h : Likes enc es l) {j : Nat} {x : MapEntry} {a : α} (hj : es[j]? = some x) (hx : x.key = enc a) : kget l a = some x.val := by
  induction es generalizing l j with
  | nil => simp at hj
  | cons y es ih =>
    cases l with
    | nil => exact h.elim
    | cons p l =>
      simp only [List.map_cons, List.nodup_cons] at hnd
      cases j with
      | zero =>
        simp only [List.getElem?_cons_zero, Option.some.injEq] at hj
        subst hj
        have : a = p.1 := inj _ _ (hx.symm.trans h.1.1)
        simp [kget, this, h.1.2]
      | succ j =>
        have h1 := ih hnd.2 h.2 (by simpa using hj)
        have hne : ¬ a = p.1 := by
          rintro rfl
          have : ∀ {l : List (α × Value)} {v : Value}, kget l p.1 = some v → p.1 ∈ l.map Prod.fst := by
            intro l
            induction l with
            | nil => intro v hv; simp [kget] at hv
            | cons q l ih =>
              intro v hv
              by_cases hq : p.1 = q.1
              · simp [hq]
              · simp only [kget, hq, if_false] at hv
                exact List.mem_cons_of_mem _ (ih hv)
          exact hnd.1 (this h1)
        simp only [kget, hne, if_false]
        exact h1
theorem kget_none {l : List (α × Value)} {a : α} (h : kget l a = none) : a ∉ l.map Prod.fst := by
  induction l with
  | nil => simp
  | cons p r ih =>
    simp only [kget] at h
    split at h
    · cases h
    · rename_i hp
      simp only [List.map_cons, List.mem_cons, not_or]
      exact ⟨hp, ih h⟩
/-- What the search tells. -/
theorem run_find (K : Maps.Keyed P k) (inj : ∀ a b, enc a = enc b → a = b) {es : Array MapEntry} {l : List (α × Value)} (h : Likes enc es.toList l) (hk : ∀ e ∈ es.toList, ∃ x, keyOf P k e.key = some x) (hnd : (l.map Prod.fst).Nodup) {a : α} {x : Lit} (ha : keyOf P k (enc a) = some x) :
    (kget l a = none ∧ (Instr.findKey k (enc a) es.toList).run P w = .ok none w) ∨ ∃ j v, kget l a = some v ∧ (Instr.findKey k (enc a) es.toList).run P w = .ok (some (j, v)) w := by
  rcases K.find w ha es.toList hk with ⟨h1, h2⟩ | ⟨j, y, h1, h2, h3⟩
  · cases hg : kget l a with
    | none => exact .inl ⟨rfl, h1⟩
    | some v =>
      exfalso
      clear hk hnd
      generalize es.toList = es at *
      clear h1
      induction l generalizing es with
      | nil => simp [kget] at hg
      | cons p l ih =>
        cases es with
        | nil => exact h
        | cons y es =>
          by_cases hp : a = p.1
          · exact h2 y (by simp) (by rw [h.1.1, hp])
          · simp only [kget, hp, if_false] at hg
            exact ih hg es h.2 (fun e he => h2 e (by simp [he]))
  · exact .inr ⟨j, y.val, mem_get hnd inj h h2 h3, h1⟩
theorem run_lookup (ht : P.underlying t = some (.map k e)) (K : Maps.Keyed P k) (inj : ∀ a b, enc a = enc b → a = b) {z : Value} (hz : (zeroValue e).run P w = .ok z w) {b : Nat} {l : List (α × Value)} (h : KMapAt P k enc w b l) (hnd : (l.map Prod.fst).Nodup) {a : α} {x : Lit} (ha : keyOf P k (enc a) = some x) (c : Bool) :
    (Instr.lookup t (.map (some b)) (enc a) c).run P w = .ok (Mp.look c (kget l a) z) w := by
  obtain ⟨es, clock, hb, hl, hk⟩ := h
  have hce := K.check w es.isEmpty ha
  rcases run_find (w := w) K inj hl hk hnd ha with ⟨h1, h2⟩ | ⟨j, v, h1, h2⟩
  · simp [Instr.lookup, run_underlying ht, MapKept.run_getObj_map hb, hce, h2, hz, h1]
    cases c <;> rfl
  · simp [Instr.lookup, run_underlying ht, MapKept.run_getObj_map hb, hce, h2, h1]
    cases c <;> rfl
theorem run_update_new (ht : P.underlying t = some (.map k e)) (K : Maps.Keyed P k) (inj : ∀ a b, enc a = enc b → a = b) {b : Nat} {l : List (α × Value)} (h : KMapAt P k enc w b l) (hnd : (l.map Prod.fst).Nodup) {a : α} {x : Lit} (ha : keyOf P k (enc a) = some x) (hg : kget l a = none) (v : Value) :
    ∃ w', (Instr.mapUpdate t (.map (some b)) (enc a) v).run P w = .ok () w' ∧ KMapAt P k enc w' b (l ++ [(a, v)]) ∧ w.grownBy w' (some b) ∧ w'.heap.size = w.heap.size := by
  obtain ⟨es, clock, hb, hl, hk⟩ := h
  have hc2 := K.check w false ha
  rcases run_find (w := w) K inj hl hk hnd ha with ⟨h1, h2⟩ | ⟨j, v', h1, h2⟩
  · refine ⟨ChangeMaps.setBlock w b (.map (es.push ⟨enc a, v, clock⟩) (clock + 1)), ?_, ⟨_, _, ChangeMaps.heap_setBlock_same hb _, ?_, ?_⟩, ⟨rfl, rfl, rfl, by simp [ChangeMaps.setBlock], fun i _ hi => ChangeMaps.heap_setBlock_other hb _ (fun e => hi (by rw [e]))⟩, by simp [ChangeMaps.setBlock]⟩
    · simp [Instr.mapUpdate, run_underlying ht, MapKept.run_getObj_map hb, hc2, h2, MapKept.run_setObj_map _ hb, Result.andThen, ChangeMaps.setBlock]
    · rw [Array.toList_push]; exact hl.snoc rfl rfl
    · intro e he
      rw [Array.toList_push, List.mem_append] at he
      rcases he with he | he
      · exact hk e he
      · simp only [List.mem_singleton] at he
        subst he
        exact ⟨x, ha⟩
  · rw [hg] at h1; cases h1
end
section
variable {α : Type} [DecidableEq α] {enc : α → Value} {P : Program} {ops : Array Oper} {Q : Exit → Act → World → Prop} {dst : Option Tmp} {t k e ty : TypeId} {pos : String} {after : Array Edge} {gd : Option (Nat × Bool)} {ρ : Operand → Value} {w : World} {R : Value → World → Prop}
theorem ok_lookup {m x : Operand} {c : Bool} {z : Value} {b : Nat} {l : List (α × Value)} {a : α} {y : Lit} (ht : P.underlying t = some (.map k e)) (K : Maps.Keyed P k) (inj : ∀ a b, enc a = enc b → a = b) (hz : (zeroValue e).run P w = .ok z w)
    (hm : ρ m = .map (some b)) (hx : ρ x = enc a) (h : KMapAt P k enc w b l) (hnd : (l.map Prod.fst).Nodup) (ha : keyOf P k (enc a) = some y) (hR : R (Mp.look c (kget l a) z) w) : Any.OpOk P ⟨dst, .lookup t m x c, ty, pos, after, gd⟩ ρ w R := by
  have hr := run_lookup ht K inj hz h hnd ha c
  unfold Any.OpOk
  simp [execOp, hm, hx, hr, Result.andThen]
  exact hR
theorem ok_update {m x y : Operand} {b : Nat} {l : List (α × Value)} {a : α} {u : Lit} {v : Value} (ht : P.underlying t = some (.map k e)) (K : Maps.Keyed P k) (inj : ∀ a b, enc a = enc b → a = b)
    (hm : ρ m = .map (some b)) (hx : ρ x = enc a) (hy : ρ y = v) (h : KMapAt P k enc w b l) (hnd : (l.map Prod.fst).Nodup) (ha : keyOf P k (enc a) = some u) (hg : kget l a = none)
    (hR : ∀ w', KMapAt P k enc w' b (l ++ [(a, v)]) → w.grownBy w' (some b) → w'.heap.size = w.heap.size → R undef w') : Any.OpOk P ⟨dst, .mapUpdate t m x y, ty, pos, after, gd⟩ ρ w R := by
  obtain ⟨w', hr, h1, h2, h3⟩ := run_update_new ht K inj h hnd ha hg v
  unfold Any.OpOk
  simp [execOp, hm, hx, hy, hr, Result.andThen]
  exact hR w' h1 h2 h3
variable {a : Act} {rest : List Oper}
theorem wpl_lookup {m x : Operand} {c : Bool} {z : Value} {b : Nat} {l : List (α × Value)} {key : α} {y : Lit} (hw : Region.wanted ⟨dst, .lookup t m x c, ty, pos, after, gd⟩ (yielded ops a.tmps) = true)
    (hm : a.eval m = .map (some b)) (hx : a.eval x = enc key) (ht : P.underlying t = some (.map k e)) (K : Maps.Keyed P k) (inj : ∀ a b, enc a = enc b → a = b) (hz : (zeroValue e).run P w = .ok z w)
    (h : KMapAt P k enc w b l) (hnd : (l.map Prod.fst).Nodup) (ha : keyOf P k (enc key) = some y) (hR : wpList P ops Q rest (a.put dst (Mp.look c (kget l key) z)) w) : wpList P ops Q (⟨dst, .lookup t m x c, ty, pos, after, gd⟩ :: rest) a w :=
  Any.wpl hw (ok_lookup ht K inj hz hm hx h hnd ha hR)
theorem wpl_update {m x y : Operand} {b : Nat} {l : List (α × Value)} {key : α} {u : Lit} {v : Value} (hw : Region.wanted ⟨dst, .mapUpdate t m x y, ty, pos, after, gd⟩ (yielded ops a.tmps) = true)
    (hm : a.eval m = .map (some b)) (hx : a.eval x = enc key) (hy : a.eval y = v) (ht : P.underlying t = some (.map k e)) (K : Maps.Keyed P k) (inj : ∀ a b, enc a = enc b → a = b)
    (h : KMapAt P k enc w b l) (hnd : (l.map Prod.fst).Nodup) (ha : keyOf P k (enc key) = some u) (hg : kget l key = none) (hR : ∀ w', KMapAt P k enc w' b (l ++ [(key, v)]) → w.grownBy w' (some b) → w'.heap.size = w.heap.size → wpList P ops Q rest (a.put dst undef) w') : wpList P ops Q (⟨dst, .mapUpdate t m x y, ty, pos, after, gd⟩ :: rest) a w :=
  Any.wpl hw (ok_update ht K inj hm hx hy h hnd ha hg hR)
end
end Go.Proofs.YtbigoifpfkdkjaaGreatDoor.Km
namespace Go.Proofs.YtbigoifpfkdkjaaGreatDoor.Any
open Go Go.RowKit
variable {P : Program} {ops : Array Oper} {S : Nat → Spec} {w0 : World} {a0 : Act}
/-- A new box: its block's cells. -/
def ptrBlock : Value → Option Nat
  | .pointer (some a) => some a.block
  | _ => none
def boxS (B : Nat) (T : TypeId) (cs : Array Value) : Spec := ⟨fun v w => ∃ b, v = .pointer (some ⟨b, 0, none⟩) ∧ B ≤ b ∧ w.heap[b]? = some (.cells cs T (0, 0)), ptrBlock, []⟩
theorem lasts_box (B : Nat) (T : TypeId) (cs : Array Value) : Lasts (boxS B T cs) w0 :=
  ⟨fun v w h b hb => by
    obtain ⟨g, rfl, -, hg⟩ := h
    obtain rfl : g = b := Option.some.inj hb
    exact (Array.getElem?_eq_some_iff.1 hg).1,
   fun v w w' h _ _ _ hk => by
    obtain ⟨g, rfl, hB, hg⟩ := h
    exact ⟨g, rfl, hB, (hk g rfl).trans hg⟩⟩
/-- What a store owes into a box of the region's own, that nobody asks for again. -/
theorem post_lost {i j B : Nat} {t : Tmp} {T : TypeId} {cs : Array Value} {ρ : Operand → Value} {w w' : World} {v : Value} {b : Nat} (hw : Below w0.heap.size w0 w) (hS : S i = ⟨fun _ _ => True, fun _ => none, [j]⟩) (hSj : S j = boxS B T cs) (hd : (ops[j]?).bind (·.dst) = some t) (hv : ρ (.tmp t) = .pointer (some ⟨b, 0, none⟩)) (hb : w0.heap.size ≤ b)
    (hg : w.grownBy w' (some b)) : Post ops S w0 i ρ w v w' := by
  refine ⟨by rw [hS]; trivial, hw.grown hg hw.size (fun k hk => by obtain rfl : b = k := Option.some.inj hk; exact hb), hg.size, fun k hlt hne => hg.block k hlt (fun e => ?_), fun k hk => by rw [hS] at hk; cases hk⟩
  obtain rfl : b = k := (Option.some.inj e).symm
  refine hne j (by rw [hS]; exact List.mem_singleton.2 rfl) t hd ?_
  rw [hSj, hv]
  rfl
theorem lasts_lost (j : Nat) : Lasts (⟨fun _ _ => True, fun _ => none, [j]⟩ : Spec) w0 := ⟨(fun _ _ _ _ h => by cases h), fun _ _ _ _ _ _ _ _ => trivial⟩
end Go.Proofs.YtbigoifpfkdkjaaGreatDoor.Any
