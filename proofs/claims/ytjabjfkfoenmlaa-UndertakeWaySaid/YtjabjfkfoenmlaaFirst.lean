/- The contract of a package's 'first': the code of the first check that holds, each check a call of a function value. -/
import Derived.Test.YtjabjfkfoenmlaaLaw
namespace Go.Proofs.Ytjabjfkfoenmlaa.Sc
open Go Go.RowKit Go.ChangeShapes Go.WideShapes Go.ChangeAt
set_option maxRecDepth 100000

section
variable {ops : Array Oper} {rest : List Oper} {a : Act} {w : World} {Q : Exit → Act → World → Prop} {dst : Option Tmp} {t : TypeId} {pos : String} {after : Array Edge} {gd : Option (Nat × Bool)}
/-- A call of a function value without arguments. -/
theorem call_dyn (x : Operand) (k : FuncId) (caps : Array Value) {R : Ending → World → Prop} (hw : Region.wanted ⟨dst, .call ⟨.value x, #[], #[]⟩, t, pos, after, gd⟩ (yielded ops a.tmps) = true)
    (hx : a.eval x = .func (.func k) #[] caps) (hgo : ∀ w, (callFunc k caps).run Try.prog w = .ok (.enter k caps) w)
    (hc : Calls Try.prog k caps w R) (h : ∀ e w', R e w' → ∃ v, e = .returned v ∧ wpList Try.prog ops Q rest (a.put dst v) w') :
    wpList Try.prog ops Q (⟨dst, .call ⟨.value x, #[], #[]⟩, t, pos, after, gd⟩ :: rest) a w := by
  refine wpList_step fun K hK => ?_
  rw [if_pos hw]
  unfold Oper.wp
  have hr : (execOp a.eval ⟨dst, .call ⟨.value x, #[], #[]⟩, t, pos, after, gd⟩).run Try.prog w = .ok (.enter k caps) w := by
    simp [execOp, resolve, hx, Deferred.ofValue, invoke, hgo]
  rw [hr]
  refine hc.mono fun e w' he => ?_
  obtain ⟨v, rfl, hv⟩ := h e w' he
  exact hK _ _ hv
end

/-- The code of the first that holds, from number i on. -/
def firstFrom (code : Nat → Int) (b : Nat → Bool) : Nat → Nat → Int
  | 0, _ => 0
  | n + 1, i => if b i then code i else firstFrom code b n (i + 1)

set_option maxHeartbeats 1000000 in
theorem first_gen (n : Nat) (hn : n ≤ 64) (blk0 : Nat) (code : Nat → Int) (k : Nat → FuncId) (cap : Nat → Array Value) (b : Nat → Bool) (I : Nat → World → Prop) (J : World → Prop) (w : World)
    (hI : I 0 w) (hgo : ∀ i, i < n → ∀ w, (callFunc (k i) (cap i)).run Try.prog w = .ok (.enter (k i) (cap i)) w)
    (hcell : ∀ i w', i < n → I i w' → w'.cell? ⟨blk0, 2 * i, none⟩ = some (.int .i64 (code i)) ∧ w'.cell? ⟨blk0, 2 * i + 1, none⟩ = some (.func (.func (k i)) #[] (cap i)))
    (hnew : ∀ i w' o, I i w' → I i (World.alloc w' o))
    (hcall : ∀ i w', i < n → I i w' → Calls Try.prog (k i) (cap i) w' fun e w'' => e = .returned (.bool (b i)) ∧ (b i = false → I (i + 1) w'') ∧ (b i = true → J w'') ∧ w''.cell? ⟨w'.heap.size - 1, 0, none⟩ = w'.cell? ⟨w'.heap.size - 1, 0, none⟩)
    (hend : ∀ w', I n w' → J w') :
    Calls Try.prog 76 #[.slice (some ⟨blk0, 0, none⟩) n n] w fun e w' => e = .returned (.int .i64 (firstFrom code b n 0)) ∧ J w' := by
  go_enter Try.func76, Try.ntmps76
  go_wp2
  have HGO := Lib.hid hgo
  have HCELL := Lib.hid hcell
  have HNEW := Lib.hid hnew
  have HCALL := Lib.hid hcall
  have hend := Lib.hid hend
  clear hgo hcell hnew hcall
  go_loopw [7] (fun i wr => ∃ j : Nat, j ≤ n ∧ i = .int .i64 j ∧ I j wr ∧ firstFrom code b n 0 = firstFrom code b (n - j) j) (fun i _ => n - (intOf i).toNat)
  case atStart => exact ⟨0, Nat.zero_le _, rfl, hI, rfl⟩
  case round =>
    obtain ⟨j, hj, rfl, hIj, hff⟩ := hrel
    have HFF := Lib.hid hff
    clear hff
    by_cases hlt : j < n
    · obtain ⟨c0, c1⟩ := HCELL.out j wr hlt hIj
      rw [Nat.mul_comm] at c0 c1
      have hI2 := HNEW.out j wr (.cells #[.int .i64 (code j), .func (.func (k j)) #[] (cap j)] 102) hIj
      have hgo := HGO.out j hlt
      have GO := Lib.hid hgo
      clear hgo
      have hstep : firstFrom code b (n - j) j = if b j then code j else firstFrom code b (n - (j + 1)) (j + 1) := by
        rw [show n - j = (n - (j + 1)) + 1 from by omega]; rfl
      have HS := Lib.hid hstep
      clear hstep
      have hc := HCALL.out j _ hlt hI2
      have HC := Lib.hid hc
      clear hc
      have h0 := heap_alloc_new wr (.cells #[.int .i64 (code j), .func (.func (k j)) #[] (cap j)] 102)
      have CB : Hid ((wr.alloc (.cells #[.int .i64 (code j), .func (.func (k j)) #[] (cap j)] 102)).cell? ⟨wr.heap.size, 0, none⟩ = some (.int .i64 (code j))) := Lib.hid (by rw [World.cell?_alloc_at _ _ _ _ rfl]; rfl)
      have HCELL2 : Hid (∀ w' : World, w'.cell? ⟨(wr.alloc (.cells #[.int .i64 (code j), .func (.func (k j)) #[] (cap j)] 102)).heap.size - 1, 0, none⟩ = (wr.alloc (.cells #[.int .i64 (code j), .func (.func (k j)) #[] (cap j)] 102)).cell? ⟨(wr.alloc (.cells #[.int .i64 (code j), .func (.func (k j)) #[] (cap j)] 102)).heap.size - 1, 0, none⟩ → w'.cell? ⟨wr.heap.size, 0, none⟩ = some (.int .i64 (code j))) := Lib.hid (fun w' h => by
        have e : (wr.alloc (.cells #[.int .i64 (code j), .func (.func (k j)) #[] (cap j)] 102)).heap.size - 1 = wr.heap.size := by simp
        rw [e] at h
        exact h.trans CB.out)
      generalize code j = cj at *
      generalize k j = kj at *
      generalize cap j = capj at *
      cases hb : b j
      · have HB := Lib.hid hb
        clear hb
        go_wp2_with (first | (refine call_dyn (.tmp 12) kj capj rfl rfl GO.out HC.out ?_; rintro e w' ⟨rfl, hI3, hJ3, hbel⟩; refine ⟨_, rfl, ?_⟩; rw [HB.out]; clear hJ3 hbel) | fail)
        go_roundw
        case rel => exact ⟨j + 1, by omega, by go_num, hI3 HB.out, by rw [HFF.out, HS.out, HB.out]; rfl⟩
        case measure => simp [intOf]; omega
      · have HB := Lib.hid hb
        clear hb
        go_wp2_with (first | (refine call_dyn (.tmp 12) kj capj rfl rfl GO.out HC.out ?_; rintro e w' ⟨rfl, hI3, hJ3, hbel⟩; refine ⟨_, rfl, ?_⟩; rw [HB.out]; have q0 : w'.cell? ⟨wr.heap.size, 0, none⟩ = some (.int .i64 cj) := HCELL2.out w' hbel; clear hI3 hbel) | fail)
        go_ret
        exact ⟨by rw [HFF.out, HS.out, HB.out]; rfl, hJ3 HB.out⟩
    · have hjn : j = n := by omega
      subst hjn
      go_wp2
      go_ret
      exact ⟨by rw [HFF.out, Nat.sub_self]; rfl, hend.out _ hIj⟩
end Go.Proofs.Ytjabjfkfoenmlaa.Sc
