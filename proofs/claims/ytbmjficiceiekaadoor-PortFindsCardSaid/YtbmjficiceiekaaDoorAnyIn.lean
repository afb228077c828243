/- A region that draws its order, and single operations, within a round of a range over a function. No program in sight. -/
import Derived.Test.YtbmjficiceiekaaDoorMap
import Derived.RangeFuncNested
import Derived.RangeFuncBound
import Derived.RangeFuncCalls
import Derived.RangeFuncLeaves
import Derived.OwnWalkIn
import Derived.TacticsInMore
import Derived.OrdersIn
namespace Go.Proofs.YtbmjficiceiekaaDoor.Any
open Go Go.RowKit
set_option maxRecDepth 100000

/-- A fence that lets every function in, at any depth. -/
structure IsWide (F : Fence) : Prop where
  fn : ∀ f, F.fn f
  depth : F.depth = none
  calls : ∀ {m : Nat} {P : Program} {f : FuncId} {args : Array Value} {w : World} {R : Ending → World → Prop}, Calls P f args w R → CallsIn F m P f args w R
theorem isWide : IsWide Fence.wide := ⟨fun _ => trivial, rfl, fun h => callsIn_wide.2 h⟩
theorem isWide_round (l : Nat) : IsWide (Fence.wide.inRound l) := ⟨fun _ => trivial, rfl, fun h => CallsIn.inRound l (callsIn_wide.2 h)⟩
section
variable {P : Program} {ops : Array Oper} {Q : Exit → Act → World → Prop} {S : Nat → Spec} {w0 : World} {a0 : Act}
theorem OpOk.wpIn {F : Fence} {m : Nat} (hF : IsWide F) {o : Oper} {a : Act} {w : World} {R : Value → World → Prop} {K : Act → World → Prop} (hnd : ∀ c, o.op ≠ .defer c) (h : OpOk P o a.eval w R) (hK : ∀ v w', R v w' → K (a.put o.dst v) w') : o.wpIn F m P a w K Q := by
  unfold OpOk at h
  refine ⟨fun f _ => hF.fn f, ?_⟩
  rw [Oper.semAt_plain F _ _ hnd]
  generalize (execOp a.eval o).run P w = r at *
  cases r with
  | ok n w' =>
    cases n <;> simp only [Oper.uponIn] at h ⊢
    case value v => exact hK _ _ h
    case skip => exact hK _ _ h
    case enter f args =>
      refine ⟨fun e => absurd e (by rw [hF.depth]; exact Bool.false_ne_true), hF.calls (h.mono fun e w'' he => ?_)⟩
      obtain ⟨v, rfl, hv⟩ := he
      exact hK _ _ hv
  | halt x w' => exact h.elim
def noDefer (ops : Array Oper) : Bool := ops.all fun o => match o.op with | .defer _ => false | _ => true
theorem noDefer_at {ops : Array Oper} (h : noDefer ops = true) {i : Nat} {o : Oper} (ho : ops[i]? = some o) : ∀ c, o.op ≠ .defer c := fun c e => by
  have := (Array.all_eq_true_iff_forall_mem.1 h) o (Array.mem_of_getElem? ho)
  rw [e] at this
  cases this
theorem wplIn {F : Fence} {m : Nat} (hF : IsWide F) {o : Oper} {a : Act} {w : World} {rest : List Oper} (hnd : ∀ c, o.op ≠ .defer c) (hw : Region.wanted o (yielded ops a.tmps) = true) (h : OpOk P o a.eval w (fun v w' => wpListIn F m P ops Q rest (a.put o.dst v) w')) : wpListIn F m P ops Q (o :: rest) a w := by
  unfold wpListIn
  rw [if_pos hw]
  exact OpOk.wpIn hF hnd h fun v w' hv => hv
theorem any_soundIn {F : Fence} {m : Nat} (hF : IsWide F) (hnd : noDefer ops = true) (hgood : good ops (fun i => (S i).takes) = true) (hlast : ∀ i, i < ops.size → Lasts (S i) w0) (hfits : ∀ (j : Nat) (oj : Oper) (d : Tmp), ops[j]? = some oj → oj.dst = some d → d < a0.tmps.size)
    (howe : ∀ i o, ops[i]? = some o → Owes P ops S w0 a0 i o)
    (hfin : ∀ vals w, Below w0.heap.size w0 w → (∀ j, j < ops.size → (∀ k, k < ops.size → j ∉ (S k).takes) → (S j).know (vals j) w) →
      (∀ i j, i < ops.size → j < ops.size → i ≠ j → (∀ k, k < ops.size → i ∉ (S k).takes) → (∀ k, k < ops.size → j ∉ (S k).takes) → ∀ b, (S i).own (vals i) = some b → (S j).own (vals j) ≠ some b) →
      Q .normal (putAll ops.toList 0 a0 vals) w) :
    ∀ (fuel : Nat) (listed : Array Bool) (a : Act) (w : World) (vals : Nat → Value), Inv ops S w0 a0 listed a w vals → listed.count false ≤ fuel → wpAnyIn F m P .any ops Q fuel listed a w := by
  obtain ⟨hsel, hat⟩ := good_spec hgood
  -- all are listed where none is ready
  have hall : ∀ (listed : Array Bool) (a : Act) (w : World) (vals : Nat → Value), Inv ops S w0 a0 listed a w vals → Region.ready .any ops listed = [] → ∀ i, i < ops.size → listed.getD i false = true := by
    intro listed a w vals hinv hnil i
    induction i using Nat.strongRecOn with
    | _ i ih =>
      intro hi
      cases hc : listed.getD i false with
      | true => rfl
      | false =>
        exfalso
        have hil : i < listed.size := by rw [hinv.size]; exact hi
        have hm : i ∈ Region.ready .any ops listed := by
          rw [mem_ready]
          refine ⟨?_, ops[i], Array.getElem?_eq_getElem hi, fun e he hb => ?_⟩
          · simp only [Array.getD_eq_getD_getElem?, Array.getElem?_eq_getElem hil] at hc ⊢
            exact hc
          · have hlt := (goodAt_spec (hat i _ (Array.getElem?_eq_getElem hi))).early e he hb
            exact ih e.on hlt (by omega)
        rw [hnil] at hm
        cases hm
  have hend : ∀ (listed : Array Bool) (a : Act) (w : World) (vals : Nat → Value), Inv ops S w0 a0 listed a w vals → (∀ i, i < ops.size → listed.getD i false = true) → Q .normal a w := by
    intro listed a w vals hinv hL
    have hp := putAll_frame (ops := ops) (base := a0.tmps) (fun i o d ho hd => (goodAt_spec (hat i o ho)).dst d hd) a0.defers vals ops.toList 0 (by intro j; simp)
    have e0 : (⟨frame ops a0.tmps (fun j => decide (j < 0)) vals, a0.defers⟩ : Act) = a0 := by
      obtain ⟨tm, df⟩ := a0
      simp only [Act.mk.injEq, and_true]
      apply Array.ext_getElem?
      intro t
      simp only [frame, Array.getElem?_mapIdx]
      cases tm[t]? with
      | none => rfl
      | some x => cases hj : writer ops t <;> simp
    rw [e0] at hp
    have e1 : a = putAll ops.toList 0 a0 vals := by
      rw [hp, hinv.act]
      congr 1
      apply Array.ext_getElem?
      intro t
      simp only [frame, Array.getElem?_mapIdx]
      congr 1
      funext x
      cases hj : writer ops t with
      | none => rfl
      | some j =>
        have hlt := (writer_some hj).1
        simp [hL j hlt, hlt]
    rw [e1]
    refine hfin vals w hinv.below (fun j hj hfree => hinv.know j hj (hL j hj) fun k hk hjk => absurd hjk (hfree k hk)) ?_
    intro i j hi hj hij hfi hfj
    exact hinv.apart i j hi hj hij (hL i hi) (hL j hj) (fun k hk h => absurd h (hfi k hk)) (fun k hk h => absurd h (hfj k hk))
  intro fuel
  induction fuel with
  | zero =>
    intro listed a w vals hinv hc
    have hL : ∀ i, i < ops.size → listed.getD i false = true := by
      intro i hi
      have hil : i < listed.size := by rw [hinv.size]; exact hi
      cases hb : listed.getD i false with
      | true => rfl
      | false =>
        exfalso
        have h1 : listed[i] = false := by simpa [Array.getD_eq_getD_getElem?, hil] using hb
        have h2 : false ∈ listed := h1 ▸ Array.getElem_mem hil
        have h3 := Array.count_pos_iff.2 h2
        omega
    refine ⟨?_, hend listed a w vals hinv hL⟩
    cases hr : Region.ready .any ops listed with
    | nil => rfl
    | cons i rest =>
      exfalso
      have hm : i ∈ Region.ready .any ops listed := by rw [hr]; exact List.mem_cons_self
      rw [mem_ready] at hm
      obtain ⟨h1, o, ho, _⟩ := hm
      have hi := (Array.getElem?_eq_some_iff.1 ho).1
      have hil : i < listed.size := by rw [hinv.size]; exact hi
      have h2 := hL i hi
      simp only [Array.getD_eq_getD_getElem?, Array.getElem?_eq_getElem hil, Option.getD_some] at h1 h2
      rw [h1] at h2
      cases h2
  | succ fuel ih =>
    intro listed a w vals hinv hc
    refine ⟨fun hnil => hend listed a w vals hinv (hall listed a w vals hinv hnil), fun i hi => ?_⟩
    rw [mem_ready] at hi
    obtain ⟨hL, o, ho, hpre⟩ := hi
    have hin := (Array.getElem?_eq_some_iff.1 ho).1
    have hil : i < listed.size := by rw [hinv.size]; exact hin
    have hLf : listed[i] = false := by simpa [Array.getD_eq_getD_getElem?, hil] using hL
    have hcount : (listed.setIfInBounds i true).count false ≤ fuel := by
      rw [Array.setIfInBounds_def, dif_pos hil, Array.count_set, hLf]
      have h3 : 0 < listed.count false := Array.count_pos_iff.2 (hLf ▸ Array.getElem_mem hil)
      simp
      omega
    have G := goodAt_spec (hat i o ho)
    have hsees : Sees ops S w0 a0 i o a.eval w := by
      refine ⟨hinv.below, fun _ => rfl, fun _ => rfl, fun _ => rfl, fun t _ hw => ?_, fun t j ht hw hla => ?_, fun t j _ hw hla => ?_⟩
      · rw [hinv.act]; exact read_old hw
      · obtain ⟨he, hone⟩ := G.looks t j ht hw hla
        obtain ⟨e, hea, heb, hej⟩ := edge_spec he
        have hLj : listed.getD j false = true := hej ▸ hpre e hea heb
        obtain ⟨hjn, hjd⟩ := writer_some hw
        have htl : t < a0.tmps.size := by
          cases hoj : ops[j]? with
          | none => rw [hoj] at hjd; cases hjd
          | some oj => rw [hoj] at hjd; exact hfits j oj t hoj hjd
        have hr : a.eval (.tmp t) = vals j := by
          rw [hinv.act]
          exact read_frame (L := fun j => listed.getD j false) hw hLj htl
        rw [hr]
        refine hinv.know j hjn hLj fun k hk hjk => ?_
        by_cases hki : k = i
        · subst hki
          simpa [Array.getD_eq_getD_getElem?, hil] using hL
        · cases hLk : listed.getD k false with
          | false => rfl
          | true =>
            exfalso
            have hek := hone k ops[k] hki (Array.getElem?_eq_getElem hk) hjk
            obtain ⟨e', he', hb', hon⟩ := edge_spec hek
            have := hinv.closed k _ (Array.getElem?_eq_getElem hk) hLk e' he' hb'
            rw [hon] at this
            simp [Array.getD_eq_getD_getElem?, hil, hLf] at this
      · rw [hinv.act]
        refine read_late (L := fun j => listed.getD j false) hw ?_
        cases hLj : listed.getD j false with
        | false => rfl
        | true =>
          exfalso
          unfold late at hla
          cases hoj : ops[j]? with
          | none => rw [hoj] at hla; cases hla
          | some oj =>
            rw [hoj] at hla
            obtain ⟨e', he', hb', hon⟩ := edge_spec hla
            have := hinv.closed j oj hoj hLj e' he' hb'
            rw [hon] at this
            simp [Array.getD_eq_getD_getElem?, hil, hLf] at this
    have hO := howe i o ho a.eval w hsees
    unfold wpOpIn
    simp only [ho]
    rw [wanted_eq]
    split
    · rename_i hw
      rw [if_pos hw] at hO
      refine OpOk.wpIn hF (noDefer_at hnd ho) hO fun v w' hpost => ?_
      exact ih _ _ _ _ (hinv.step hgood hlast hfits ho hL hpre hpost) hcount
    · rename_i hw
      rw [if_neg hw] at hO
      refine ⟨fun f _ => hF.fn f, ?_⟩
      refine ih _ _ _ _ (hinv.step hgood hlast hfits ho hL hpre ⟨hO.1, hinv.below, Nat.le_refl _, fun _ _ _ => rfl, fun b hb => ?_⟩) hcount
      rw [hO.2] at hb
      cases hb

theorem regionIn {F : Fence} {m : Nat} (hF : IsWide F) (hnd : noDefer ops = true) (S : Nat → Spec) {id : Nat} {a0 : Act} {w : World} (hm : P.follows .mixedOrders = true) (hgood : good ops (fun i => (S i).takes) = true) (hlast : ∀ i, i < ops.size → Lasts (S i) w.drew)
    (hfits : (ops.all fun o => match o.dst with | some d => decide (d < a0.tmps.size) | none => true) = true)
    (howe : ∀ i o, ops[i]? = some o → Owes P ops S w.drew a0 i o)
    (hfin : ∀ vals w', Below w.drew.heap.size w.drew w' → (∀ j, j < ops.size → (∀ k, k < ops.size → j ∉ (S k).takes) → (S j).know (vals j) w') →
      (∀ i j, i < ops.size → j < ops.size → i ≠ j → (∀ k, k < ops.size → i ∉ (S k).takes) → (∀ k, k < ops.size → j ∉ (S k).takes) → ∀ b, (S i).own (vals i) = some b → (S j).own (vals j) ≠ some b) →
      Q .normal (putAll ops.toList 0 a0 vals) w') : (Code.region id ops true).wpIn F m P Q a0 w := by
  refine wpIn_region_any hm ?_
  refine any_soundIn hF hnd (S := S) (w0 := w.drew) (a0 := a0) hgood hlast ?_ howe hfin ops.size _ a0 w.drew (fun _ => undef) ?_ ?_
  · intro j oj d hoj hd
    have := (Array.all_eq_true_iff_forall_mem.1 hfits) oj (Array.mem_of_getElem? hoj)
    simpa [hd] using this
  · have hfalse : ∀ j, (Array.replicate ops.size false).getD j false = false := by
      intro j
      simp only [Array.getD_eq_getD_getElem?, Array.getElem?_replicate]
      split <;> rfl
    refine ⟨by simp, ?_, Below.refl _ _, fun k o _ hk => ?_, fun j _ hj => ?_, fun i j _ _ _ hi => ?_⟩
    · obtain ⟨tm, df⟩ := a0
      simp only [Act.mk.injEq, and_true]
      apply Array.ext_getElem?
      intro t
      simp only [frame, Array.getElem?_mapIdx, hfalse]
      cases tm[t]? with
      | none => rfl
      | some x => cases hj : writer ops t <;> simp
    · rw [hfalse] at hk; cases hk
    · rw [hfalse] at hj; cases hj
    · rw [hfalse] at hi; cases hi
  · exact Nat.le_trans Array.count_le_size (by simp)


theorem region_litIn {F : Fence} {m : Nat} (hF : IsWide F) (S : Nat → Spec) {id : Nat} {a0 : Act} {w : World} {l : List Oper} (hm : P.follows .mixedOrders = true) (hnd : noDefer l.toArray = true) (hgood : good l.toArray (fun i => (S i).takes) = true)
    (hfits : (l.all fun o => match o.dst with | some d => decide (d < a0.tmps.size) | none => true) = true) (hlast : ∀ i, i < l.length → Lasts (S i) w.drew)
    (howe : OwesAll P l.toArray S w.drew a0 0 l)
    (hfin : ∀ vals w', Below w.heap.size w w' → (∀ j, (decide (j < l.length) && free S l.length j) = true → (S j).know (vals j) w') →
      (∀ i j, (decide (i < l.length) && decide (j < l.length) && decide (i ≠ j) && free S l.length i && free S l.length j) = true → ∀ b, (S i).own (vals i) = some b → (S j).own (vals j) ≠ some b) →
      Q .normal (putAll l 0 a0 vals) w') : (Code.region id l.toArray true).wpIn F m P Q a0 w := by
  refine regionIn hF hnd S hm hgood (by simpa using hlast) (by simpa using hfits) (fun i o ho => ?_) fun vals w' hb hk ha => ?_
  · have := OwesAll.get l 0 howe i o (by simpa using ho)
    simpa using this
  · have hb' : Below w.heap.size w w' := ((Below.refl _ _).drew).trans hb
    simp only [List.size_toArray] at hk ha
    refine hfin vals w' hb' (fun j hj => ?_) (fun i j hij => ?_)
    · simp only [Bool.and_eq_true, decide_eq_true_eq] at hj
      exact hk j hj.1 (free_spec hj.2)
    · simp only [Bool.and_eq_true, decide_eq_true_eq] at hij
      obtain ⟨⟨⟨⟨h1, h2⟩, h3⟩, h4⟩, h5⟩ := hij
      exact ha i j h1 h2 h3 (free_spec h4) (free_spec h5)

end
end Go.Proofs.YtbmjficiceiekaaDoor.Any
namespace Go.Proofs.YtbmjficiceiekaaDoor.Mp
open Go Go.RowKit Any
section
variable {P : Program} {ops : Array Oper} {Q : Exit → Act → World → Prop} {F : Fence} {m : Nat} {dst : Option Tmp} {t k e ty : TypeId} {pos : String} {after : Array Edge} {gd : Option (Nat × Bool)} {a : Act} {w : World} {rest : List Oper}
theorem wplIn_lookup (hF : IsWide F) {mo x : Operand} {c : Bool} {z : Value} {b : Nat} {l : Ents} {key : ByteArray} (hw : Region.wanted ⟨dst, .lookup t mo x c, ty, pos, after, gd⟩ (yielded ops a.tmps) = true)
    (hm : a.eval mo = .map (some b)) (hx : a.eval x = .string key) (ht : P.underlying t = some (.map k e)) (hk : P.underlying k = some .string) (hz : (zeroValue e).run P w = .ok z w)
    (h : MapAt w b l) (hR : wpListIn F m P ops Q rest (a.put dst (look c (mget l key) z)) w) : wpListIn F m P ops Q (⟨dst, .lookup t mo x c, ty, pos, after, gd⟩ :: rest) a w :=
  wplIn hF (fun c h => by cases h) hw (ok_lookup ht hk hz hm hx h hR)
theorem wplIn_got (hF : IsWide F) {mo x : Operand} {z : Value} {b : Nat} {l : Ents} {key : ByteArray} {v : Value} (hw : Region.wanted ⟨dst, .lookup t mo x true, ty, pos, after, gd⟩ (yielded ops a.tmps) = true)
    (hm : a.eval mo = .map (some b)) (hx : a.eval x = .string key) (ht : P.underlying t = some (.map k e)) (hk : P.underlying k = some .string) (hz : (zeroValue e).run P w = .ok z w)
    (h : MapAt w b l) (hg : mget l key = some v) (hR : wpListIn F m P ops Q rest (a.put dst (.tuple #[v, .bool true])) w) : wpListIn F m P ops Q (⟨dst, .lookup t mo x true, ty, pos, after, gd⟩ :: rest) a w :=
  wplIn_lookup hF hw hm hx ht hk hz h (by rw [hg]; exact hR)
theorem wplIn_miss (hF : IsWide F) {mo x : Operand} {z : Value} {b : Nat} {l : Ents} {key : ByteArray} (hw : Region.wanted ⟨dst, .lookup t mo x true, ty, pos, after, gd⟩ (yielded ops a.tmps) = true)
    (hm : a.eval mo = .map (some b)) (hx : a.eval x = .string key) (ht : P.underlying t = some (.map k e)) (hk : P.underlying k = some .string) (hz : (zeroValue e).run P w = .ok z w)
    (h : MapAt w b l) (hg : mget l key = none) (hR : wpListIn F m P ops Q rest (a.put dst (.tuple #[z, .bool false])) w) : wpListIn F m P ops Q (⟨dst, .lookup t mo x true, ty, pos, after, gd⟩ :: rest) a w :=
  wplIn_lookup hF hw hm hx ht hk hz h (by rw [hg]; exact hR)
theorem wplIn_update (hF : IsWide F) {mo x y : Operand} {b : Nat} {l : Ents} {key : ByteArray} {v : Value} (hw : Region.wanted ⟨dst, .mapUpdate t mo x y, ty, pos, after, gd⟩ (yielded ops a.tmps) = true)
    (hm : a.eval mo = .map (some b)) (hx : a.eval x = .string key) (hy : a.eval y = v) (ht : P.underlying t = some (.map k e)) (hk : P.underlying k = some .string)
    (h : MapAt w b l) (hR : ∀ w', MapAt w' b (mput l key v) → w.grownBy w' (some b) → w'.heap.size = w.heap.size → wpListIn F m P ops Q rest (a.put dst undef) w') : wpListIn F m P ops Q (⟨dst, .mapUpdate t mo x y, ty, pos, after, gd⟩ :: rest) a w :=
  wplIn hF (fun c h => by cases h) hw (ok_update ht hk hm hx hy h hR)
end
end Go.Proofs.YtbmjficiceiekaaDoor.Mp
