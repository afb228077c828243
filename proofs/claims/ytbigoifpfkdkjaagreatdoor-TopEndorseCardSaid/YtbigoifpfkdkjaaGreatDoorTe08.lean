/- A region that draws its order and whose last operation waits for all others. No program in sight. -/
import Derived.Test.YtbigoifpfkdkjaaGreatDoorTe02
namespace Go.Proofs.YtbigoifpfkdkjaaGreatDoor.Any
open Go Go.RowKit
set_option maxRecDepth 100000
section
variable {P : Program} {ops : Array Oper} {Q : Exit → Act → World → Prop} {S : Nat → Spec} {w0 : World} {a0 : Act}
def reachA (ops : Array Oper) : Nat → Nat → Nat → Bool
  | 0, k, i => k == i
  | n + 1, k, i => k == i || match ops[k]? with | some o => o.after.any fun e => Region.binds .any e && reachA ops n e.on i | none => false
theorem Inv.reachedA {listed : Array Bool} {a : Act} {w : World} {vals : Nat → Value} (hinv : Inv ops S w0 a0 listed a w vals) : ∀ (n k i : Nat), reachA ops n k i = true → listed.getD k false = true → listed.getD i false = true
  | 0, k, i, h, hk => by
    obtain rfl : k = i := by simpa [reachA] using h
    exact hk
  | n + 1, k, i, h, hk => by
    simp only [reachA, Bool.or_eq_true, beq_iff_eq] at h
    rcases h with rfl | h
    · exact hk
    · cases ho : ops[k]? with
      | none => rw [ho] at h; cases h
      | some o =>
        rw [ho] at h
        simp only [Array.any_eq_true] at h
        obtain ⟨j, hj, hb⟩ := h
        simp only [Bool.and_eq_true] at hb
        exact hinv.reachedA n _ i hb.2 (hinv.closed k o ho hk _ (Array.getElem_mem hj) hb.1)
theorem wpAny_done {listed : Array Bool} (hsz : listed.size = ops.size) (hL : ∀ i, i < ops.size → listed.getD i false = true) {a : Act} {w : World} (hQ : Q .normal a w) : ∀ fuel, wpAny P .any ops Q fuel listed a w := by
  have hno : ∀ i, i ∈ Region.ready .any ops listed → False := by
    intro i hm
    rw [mem_ready] at hm
    obtain ⟨h1, o, ho, _⟩ := hm
    have hi := (Array.getElem?_eq_some_iff.1 ho).1
    have hil : i < listed.size := by rw [hsz]; exact hi
    have h2 := hL i hi
    simp only [Array.getD_eq_getD_getElem?, Array.getElem?_eq_getElem hil, Option.getD_some] at h1 h2
    rw [h1] at h2
    cases h2
  intro fuel
  cases fuel with
  | zero =>
    refine ⟨?_, hQ⟩
    cases hr : Region.ready .any ops listed with
    | nil => rfl
    | cons i rest => exact (hno i (by rw [hr]; exact List.mem_cons_self)).elim
  | succ fuel => exact ⟨fun _ => hQ, fun i hi => (hno i hi).elim⟩
theorem any_soundL (n : Nat) (on : Oper) (hn : ops.size = n + 1) (hon : ops[n]? = some on) (hng : on.guard = none) (hreach : ((List.range n).all fun i => reachA ops ops.size n i) = true)
    (hgood : good ops (fun i => (S i).takes) = true) (hlast : ∀ i, i < ops.size → Lasts (S i) w0) (hfits : ∀ (j : Nat) (oj : Oper) (d : Tmp), ops[j]? = some oj → oj.dst = some d → d < a0.tmps.size)
    (howe : ∀ i o, i < n → ops[i]? = some o → Owes P ops S w0 a0 i o)
    (hlst : ∀ vals w, Below w0.heap.size w0 w → (∀ j, j < n → (∀ k, k < ops.size → j ∉ (S k).takes) → (S j).know (vals j) w) →
      OpOk P on (Act.eval ⟨frame ops a0.tmps (fun j => decide (j < n)) vals, a0.defers⟩) w (fun v w' => Q .normal ((⟨frame ops a0.tmps (fun j => decide (j < n)) vals, a0.defers⟩ : Act).put on.dst v) w')) :
    ∀ (fuel : Nat) (listed : Array Bool) (a : Act) (w : World) (vals : Nat → Value), Inv ops S w0 a0 listed a w vals → listed.getD n false = false → listed.count false ≤ fuel → wpAny P .any ops Q fuel listed a w := by
  obtain ⟨hsel, hat⟩ := good_spec hgood
  have hall : ∀ (listed : Array Bool) (a : Act) (w : World) (vals : Nat → Value), Inv ops S w0 a0 listed a w vals → Region.ready .any ops listed = [] → ∀ i, i < ops.size → listed.getD i false = true := by
    intro listed a w vals hinv hnil i
    induction i using Nat.strongRecOn with
    | _ i ih =>
      intro hi
      cases hc : listed.getD i false with
      | true => rfl
      | false =>
        exfalso
        have hil : i < listed.size := by rw [hinv.size]; exact hi
        have hm : i ∈ Region.ready .any ops listed := by
          rw [mem_ready]
          refine ⟨?_, ops[i], Array.getElem?_eq_getElem hi, fun e he hb => ?_⟩
          · simp only [Array.getD_eq_getD_getElem?, Array.getElem?_eq_getElem hil] at hc ⊢
            exact hc
          · have hlt := (goodAt_spec (hat i _ (Array.getElem?_eq_getElem hi))).early e he hb
            exact ih e.on hlt (by omega)
        rw [hnil] at hm
        cases hm
  intro fuel
  induction fuel with
  | zero =>
    intro listed a w vals hinv hnl hc
    exfalso
    have hil : n < listed.size := by rw [hinv.size]; omega
    have h1 : listed[n] = false := by simpa [Array.getD_eq_getD_getElem?, hil] using hnl
    have h2 : false ∈ listed := h1 ▸ Array.getElem_mem hil
    have h3 := Array.count_pos_iff.2 h2
    omega
  | succ fuel ih =>
    intro listed a w vals hinv hnl hc
    refine ⟨fun hnil => ?_, fun i hi => ?_⟩
    · have := hall listed a w vals hinv hnil n (by omega)
      rw [hnl] at this
      cases this
    rw [mem_ready] at hi
    obtain ⟨hL, o, ho, hpre⟩ := hi
    have hin := (Array.getElem?_eq_some_iff.1 ho).1
    have hil : i < listed.size := by rw [hinv.size]; exact hin
    by_cases hin2 : i < n
    rotate_left
    · obtain rfl : i = n := by omega
      obtain rfl : o = on := Option.some.inj (ho.symm.trans hon)
      have hprev : ∀ j, j < i → listed.getD j false = true := by
        intro j hj
        have hr := List.all_eq_true.1 hreach j (List.mem_range.2 hj)
        rw [hn] at hr
        simp only [reachA, Bool.or_eq_true, beq_iff_eq] at hr
        rcases hr with e | hr
        · omega
        · rw [ho] at hr
          simp only [Array.any_eq_true] at hr
          obtain ⟨q, hq, hb⟩ := hr
          simp only [Bool.and_eq_true] at hb
          exact hinv.reachedA _ _ j hb.2 (hpre _ (Array.getElem_mem hq) hb.1)
      have hL2 : (fun j => listed.getD j false) = fun j => decide (j < i) := by
        funext j
        by_cases hj : j < i
        · rw [hprev j hj, decide_eq_true hj]
        · rw [decide_eq_false hj]
          by_cases he : j = i
          · subst he; exact hnl
          · have : listed.size ≤ j := by rw [hinv.size]; omega
            simp [Array.getD_eq_getD_getElem?, Array.getElem?_eq_none this]
      have hact : a = ⟨frame ops a0.tmps (fun j => decide (j < i)) vals, a0.defers⟩ := by rw [hinv.act, hL2]
      have hO := hlst vals w hinv.below (fun j hj hfree => hinv.know j (by omega) (hprev j hj) fun k hk hjk => absurd hjk (hfree k hk))
      rw [← hact] at hO
      unfold wpOp
      simp only [ho]
      rw [wanted_eq]
      have hwant : wantR ops a.eval o = true := by unfold wantR; rw [hng]
      rw [if_pos hwant]
      refine .inl (OpOk.wp hO fun v w' hQ => wpAny_done (by simp [hinv.size]) (fun j hj => ?_) hQ _)
      rw [getD_set hil]
      split
      · rfl
      · exact hprev j (by omega)
    have hLf : listed[i] = false := by simpa [Array.getD_eq_getD_getElem?, hil] using hL
    have hnl : (listed.setIfInBounds i true).getD n false = false := by
      rw [getD_set hil, if_neg (by omega)]
      exact hnl
    have hcount : (listed.setIfInBounds i true).count false ≤ fuel := by
      rw [Array.setIfInBounds_def, dif_pos hil, Array.count_set, hLf]
      have h3 : 0 < listed.count false := Array.count_pos_iff.2 (hLf ▸ Array.getElem_mem hil)
      simp
      omega
    have G := goodAt_spec (hat i o ho)
    have hsees : Sees ops S w0 a0 i o a.eval w := by
      refine ⟨hinv.below, fun _ => rfl, fun _ => rfl, fun _ => rfl, fun t _ hw => ?_, fun t j ht hw hla => ?_, fun t j _ hw hla => ?_⟩
      · rw [hinv.act]; exact read_old hw
      · obtain ⟨he, hone⟩ := G.looks t j ht hw hla
        obtain ⟨e, hea, heb, hej⟩ := edge_spec he
        have hLj : listed.getD j false = true := hej ▸ hpre e hea heb
        obtain ⟨hjn, hjd⟩ := writer_some hw
        have htl : t < a0.tmps.size := by
          cases hoj : ops[j]? with
          | none => rw [hoj] at hjd; cases hjd
          | some oj => rw [hoj] at hjd; exact hfits j oj t hoj hjd
        have hr : a.eval (.tmp t) = vals j := by
          rw [hinv.act]
          exact read_frame (L := fun j => listed.getD j false) hw hLj htl
        rw [hr]
        refine hinv.know j hjn hLj fun k hk hjk => ?_
        by_cases hki : k = i
        · subst hki
          simpa [Array.getD_eq_getD_getElem?, hil] using hL
        · cases hLk : listed.getD k false with
          | false => rfl
          | true =>
            exfalso
            have hek := hone k ops[k] hki (Array.getElem?_eq_getElem hk) hjk
            obtain ⟨e', he', hb', hon⟩ := edge_spec hek
            have := hinv.closed k _ (Array.getElem?_eq_getElem hk) hLk e' he' hb'
            rw [hon] at this
            simp [Array.getD_eq_getD_getElem?, hil, hLf] at this
      · rw [hinv.act]
        refine read_late (L := fun j => listed.getD j false) hw ?_
        cases hLj : listed.getD j false with
        | false => rfl
        | true =>
          exfalso
          unfold late at hla
          cases hoj : ops[j]? with
          | none => rw [hoj] at hla; cases hla
          | some oj =>
            rw [hoj] at hla
            obtain ⟨e', he', hb', hon⟩ := edge_spec hla
            have := hinv.closed j oj hoj hLj e' he' hb'
            rw [hon] at this
            simp [Array.getD_eq_getD_getElem?, hil, hLf] at this
    have hO := howe i o hin2 ho a.eval w hsees
    unfold wpOp
    simp only [ho]
    rw [wanted_eq]
    split
    · rename_i hw
      rw [if_pos hw] at hO
      refine .inl (OpOk.wp hO fun v w' hpost => ?_)
      exact ih _ _ _ _ (hinv.step hgood hlast hfits ho hL hpre hpost) hnl hcount
    · rename_i hw
      rw [if_neg hw] at hO
      refine ih _ _ _ _ (hinv.step hgood hlast hfits ho hL hpre ⟨hO.1, hinv.below, Nat.le_refl _, fun _ _ _ => rfl, fun b hb => ?_⟩) hnl hcount
      rw [hO.2] at hb
      cases hb

theorem putAll_frameP {base : Array Value} (hd : ∀ i o d, ops[i]? = some o → o.dst = some d → writer ops d = some i) (df : List Deferred) (vals : Nat → Value) :
    ∀ (l : List Oper) (k : Nat), (∀ j, j < l.length → l[j]? = ops[k + j]?) → putAll l k ⟨frame ops base (fun j => decide (j < k)) vals, df⟩ vals = ⟨frame ops base (fun j => decide (j < k + l.length)) vals, df⟩
  | [], k, _ => by simp [putAll]
  | o :: l, k, h => by
    have h0 : ops[k]? = some o := by simpa using (h 0 (by simp)).symm
    have ih := putAll_frameP (base := base) hd df vals l (k + 1) (fun j hj => by have := h (j + 1) (by simpa using hj); simpa [Nat.add_assoc, Nat.add_comm 1 j] using this)
    simp only [putAll]
    rw [frame_put h0 (fun d hdd => hd k o d h0 hdd)]
    have e1 : (fun j => if j = k then true else decide (j < k)) = fun j => decide (j < k + 1) := by
      funext j
      by_cases hj : j = k
      · subst hj; simp
      · simp only [hj, if_false]; congr 1; apply propext; omega
    have e2 : (fun j => if j = k then vals k else vals j) = vals := by
      funext j
      split
      · subst_vars; rfl
      · rfl
    rw [e1, e2, ih]
    congr 3
    funext j
    congr 1
    apply propext
    simp only [List.length_cons]
    omega
theorem frame_take {l : List Oper} {n : Nat} {takes : Nat → List Nat} (hgood : good l.toArray takes = true) (hn : n ≤ l.length) (a0 : Act) (vals : Nat → Value) : (⟨frame l.toArray a0.tmps (fun j => decide (j < n)) vals, a0.defers⟩ : Act) = putAll (l.take n) 0 a0 vals := by
  obtain ⟨_, hat⟩ := good_spec hgood
  have hp := putAll_frameP (ops := l.toArray) (base := a0.tmps) (fun i o d ho hd => (goodAt_spec (hat i o ho)).dst d hd) a0.defers vals (l.take n) 0 (by
    intro j hj
    rw [List.length_take] at hj
    rw [List.getElem?_take, if_pos (by omega)]
    simp)
  have e0 : (⟨frame l.toArray a0.tmps (fun j => decide (j < 0)) vals, a0.defers⟩ : Act) = a0 := by
    obtain ⟨tm, df⟩ := a0
    simp only [Act.mk.injEq, and_true]
    apply Array.ext_getElem?
    intro t
    simp only [frame, Array.getElem?_mapIdx]
    cases tm[t]? with
    | none => rfl
    | some x => cases hj : writer l.toArray t <;> simp
  rw [e0, List.length_take, Nat.min_eq_left hn, Nat.zero_add] at hp
  exact hp.symm
/-- The region: all but the last operation by their specifications, the last one behind them. -/
theorem region_litL (S : Nat → Spec) {id : Nat} {a0 : Act} {w : World} {l : List Oper} (n : Nat) (on : Oper) (hm : P.follows .mixedOrders = true) (hn : l.length = n + 1) (hon : l[n]? = some on) (hng : on.guard = none)
    (hreach : ((List.range n).all fun i => reachA l.toArray l.length n i) = true) (hgood : good l.toArray (fun i => (S i).takes) = true)
    (hfits : (l.all fun o => match o.dst with | some d => decide (d < a0.tmps.size) | none => true) = true) (hlast : ∀ i, i < l.length → Lasts (S i) w.drew)
    (howe : OwesAll P l.toArray S w.drew a0 0 (l.take n))
    (hlst : ∀ vals w', Below w.heap.size w w' → (∀ j, (decide (j < n) && free S l.length j) = true → (S j).know (vals j) w') →
      OpOk P on (Act.eval (putAll (l.take n) 0 a0 vals)) w' (fun v w'' => Q .normal ((putAll (l.take n) 0 a0 vals).put on.dst v) w'')) : (Code.region id l.toArray true).wp P Q a0 w := by
  refine wp_region_any hm ?_
  refine any_soundL (S := S) (w0 := w.drew) (a0 := a0) n on (by simpa using hn) (by simpa using hon) hng (by simpa using hreach) hgood (by simpa using hlast) ?_ (fun i o hi ho => ?_) (fun vals w' hb hk => ?_) l.toArray.size _ a0 w.drew (fun _ => undef) ?_ ?_ ?_
  · intro j oj d hoj hd
    have := (List.all_eq_true.1 hfits) oj (List.mem_of_getElem? (by simpa using hoj))
    simpa [hd] using this
  · have := OwesAll.get (l.take n) 0 howe i o (by rw [List.getElem?_take, if_pos hi]; simpa using ho)
    simpa using this
  · have hb' : Below w.heap.size w w' := ((Below.refl _ _).drew).trans hb
    rw [frame_take hgood (by omega)]
    exact hlst vals w' hb' (fun j hj => by
      simp only [Bool.and_eq_true, decide_eq_true_eq] at hj
      exact hk j hj.1 (by simpa using free_spec hj.2))
  · have hfalse : ∀ j, (Array.replicate l.toArray.size false).getD j false = false := by
      intro j
      simp only [Array.getD_eq_getD_getElem?, Array.getElem?_replicate]
      split <;> rfl
    refine ⟨by simp, ?_, Below.refl _ _, fun k o _ hk => ?_, fun j _ hj => ?_, fun i j _ _ _ hi => ?_⟩
    · obtain ⟨tm, df⟩ := a0
      simp only [Act.mk.injEq, and_true]
      apply Array.ext_getElem?
      intro t
      simp only [frame, Array.getElem?_mapIdx, hfalse]
      cases tm[t]? with
      | none => rfl
      | some x => cases hj : writer l.toArray t <;> simp
    · rw [hfalse] at hk; cases hk
    · rw [hfalse] at hj; cases hj
    · rw [hfalse] at hi; cases hi
  · simp only [Array.getD_eq_getD_getElem?, Array.getElem?_replicate]
    split <;> rfl
  · exact Nat.le_trans Array.count_le_size (by simp)
end
end Go.Proofs.YtbigoifpfkdkjaaGreatDoor.Any
