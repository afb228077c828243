/- A region in its own order, met operation by operation as a drawn one is: no frame is carried along. No program in sight. -/
import Derived.Test.YtjabjfkfoenmlaaAny
namespace Go.Proofs.Ytjabjfkfoenmlaa.Any
open Go Go.RowKit
set_option maxRecDepth 100000
section
variable {P : Program} {ops : Array Oper} {Q : Exit → Act → World → Prop} {S : Nat → Spec} {w0 : World} {a0 : Act}
theorem ord_end (hgood : good ops (fun i => (S i).takes) = true) (hfin : ∀ vals w, Below w0.heap.size w0 w → (∀ j, j < ops.size → (∀ k, k < ops.size → j ∉ (S k).takes) → (S j).know (vals j) w) → Q .normal (putAll ops.toList 0 a0 vals) w)
    {listed : Array Bool} {a : Act} {w : World} {vals : Nat → Value} (hinv : Inv ops S w0 a0 listed a w vals) (hL : ∀ i, i < ops.size → listed.getD i false = true) : Q .normal a w := by
  obtain ⟨hsel, hat⟩ := good_spec hgood
  have hp := putAll_frame (ops := ops) (base := a0.tmps) (fun i o d ho hd => (goodAt_spec (hat i o ho)).dst d hd) a0.defers vals ops.toList 0 (by intro j; simp)
  have e0 : (⟨frame ops a0.tmps (fun j => decide (j < 0)) vals, a0.defers⟩ : Act) = a0 := by
    obtain ⟨tm, df⟩ := a0
    simp only [Act.mk.injEq, and_true]
    apply Array.ext_getElem?
    intro t
    simp only [frame, Array.getElem?_mapIdx]
    cases tm[t]? with
    | none => rfl
    | some x => cases hj : writer ops t <;> simp
  rw [e0] at hp
  have e1 : a = putAll ops.toList 0 a0 vals := by
    rw [hp, hinv.act]
    congr 1
    apply Array.ext_getElem?
    intro t
    simp only [frame, Array.getElem?_mapIdx]
    congr 1
    funext x
    cases hj : writer ops t with
    | none => rfl
    | some j =>
      have hlt := (writer_some hj).1
      simp [hL j hlt, hlt]
  rw [e1]
  exact hfin vals w hinv.below (fun j hj hfree => hinv.know j hj (hL j hj) fun k hk hjk => absurd hjk (hfree k hk))
theorem ord_sound (hgood : good ops (fun i => (S i).takes) = true) (hlast : ∀ i, i < ops.size → Lasts (S i) w0) (hfits : ∀ (j : Nat) (oj : Oper) (d : Tmp), ops[j]? = some oj → oj.dst = some d → d < a0.tmps.size)
    (howe : ∀ i o, ops[i]? = some o → Owes P ops S w0 a0 i o)
    (hfin : ∀ vals w, Below w0.heap.size w0 w → (∀ j, j < ops.size → (∀ k, k < ops.size → j ∉ (S k).takes) → (S j).know (vals j) w) → Q .normal (putAll ops.toList 0 a0 vals) w) :
    ∀ (l : List Oper) (k : Nat), (∀ j, l[j]? = ops[k + j]?) → ∀ (listed : Array Bool) (a : Act) (w : World) (vals : Nat → Value), Inv ops S w0 a0 listed a w vals → (∀ i, i < ops.size → listed.getD i false = decide (i < k)) → wpList P ops Q l a w := by
  obtain ⟨hsel, hat⟩ := good_spec hgood
  intro l
  induction l with
  | nil =>
    intro k hk listed a w vals hinv hL
    refine ord_end (w0 := w0) (a0 := a0) hgood hfin hinv fun i hi => ?_
    have h0 := hk 0
    simp only [Nat.add_zero, List.getElem?_nil] at h0
    have hsz : ops.size ≤ k := Array.getElem?_eq_none_iff.1 h0.symm
    rw [hL i hi, decide_eq_true (by omega)]
  | cons o l ih =>
    intro k hk listed a w vals hinv hL
    have ho : ops[k]? = some o := by have := hk 0; simpa using this.symm
    have hin := (Array.getElem?_eq_some_iff.1 ho).1
    have hil : k < listed.size := by rw [hinv.size]; exact hin
    have hLf : listed.getD k false = false := by rw [hL k hin, decide_eq_false (by omega)]
    have hLt : listed.getD k true = false := by
      simp only [Array.getD_eq_getD_getElem?, Array.getElem?_eq_getElem hil] at hLf ⊢
      exact hLf
    have G := goodAt_spec (hat k o ho)
    have hpre : ∀ e ∈ o.after, Region.binds .any e = true → listed.getD e.on false = true := fun e he hb => by
      have hlt := G.early e he hb
      rw [hL e.on (by omega), decide_eq_true hlt]
    have hnext : ∀ i, i < ops.size → (listed.setIfInBounds k true).getD i false = decide (i < k + 1) := fun i hi => by
      rw [getD_set hil i]
      split
      · rename_i e; rw [e, decide_eq_true (by omega)]
      · rename_i e; rw [hL i hi]; congr 1; apply propext; omega
    have hsees : Sees ops S w0 a0 k o a.eval w := by
      refine ⟨hinv.below, fun _ => rfl, fun _ => rfl, fun _ => rfl, fun t _ hw => ?_, fun t j ht hw hla => ?_, fun t j _ hw hla => ?_⟩
      · rw [hinv.act]; exact read_old hw
      · obtain ⟨he, hone⟩ := G.looks t j ht hw hla
        obtain ⟨e, hea, heb, hej⟩ := edge_spec he
        have hLj : listed.getD j false = true := hej ▸ hpre e hea heb
        obtain ⟨hjn, hjd⟩ := writer_some hw
        have htl : t < a0.tmps.size := by
          cases hoj : ops[j]? with
          | none => rw [hoj] at hjd; cases hjd
          | some oj => rw [hoj] at hjd; exact hfits j oj t hoj hjd
        have hr : a.eval (.tmp t) = vals j := by
          rw [hinv.act]
          exact read_frame (L := fun j => listed.getD j false) hw hLj htl
        rw [hr]
        refine hinv.know j hjn hLj fun q hq hjq => ?_
        by_cases hqk : q = k
        · subst hqk; exact hLf
        · cases hLq : listed.getD q false with
          | false => rfl
          | true =>
            exfalso
            have hek := hone q ops[q] hqk (Array.getElem?_eq_getElem hq) hjq
            obtain ⟨e', he', hb', hon⟩ := edge_spec hek
            have := hinv.closed q _ (Array.getElem?_eq_getElem hq) hLq e' he' hb'
            rw [hon, hLf] at this
            cases this
      · rw [hinv.act]
        refine read_late (L := fun j => listed.getD j false) hw ?_
        cases hLj : listed.getD j false with
        | false => rfl
        | true =>
          exfalso
          unfold late at hla
          cases hoj : ops[j]? with
          | none => rw [hoj] at hla; cases hla
          | some oj =>
            rw [hoj] at hla
            obtain ⟨e', he', hb', hon⟩ := edge_spec hla
            have := hinv.closed j oj hoj hLj e' he' hb'
            rw [hon, hLf] at this
            cases this
    have hO := howe k o ho a.eval w hsees
    have hl : ∀ j, l[j]? = ops[k + 1 + j]? := fun j => by
      have := hk (j + 1)
      rw [List.getElem?_cons_succ] at this
      rw [this]; congr 1; omega
    refine wpList_step fun K hK => ?_
    rw [wanted_eq]
    split
    · rename_i hw
      rw [if_pos hw] at hO
      exact OpOk.wp hO fun v w' hpost => hK _ _ (ih (k + 1) hl _ _ _ _ (hinv.step hgood hlast hfits ho hLt hpre hpost) hnext)
    · rename_i hw
      rw [if_neg hw] at hO
      refine hK _ _ (ih (k + 1) hl _ _ _ _ (hinv.step hgood hlast hfits ho hLt hpre ⟨hO.1, hinv.below, Nat.le_refl _, fun _ _ _ => rfl, fun b hb => ?_⟩) hnext)
      rw [hO.2] at hb
      cases hb
theorem region_ord (S : Nat → Spec) {id : Nat} {a0 : Act} {w : World} {l : List Oper} (hgood : good l.toArray (fun i => (S i).takes) = true)
    (hfits : (l.all fun o => match o.dst with | some d => decide (d < a0.tmps.size) | none => true) = true) (hlast : ∀ i, i < l.length → Lasts (S i) w)
    (howe : OwesAll P l.toArray S w a0 0 l)
    (hfin : ∀ vals w', Below w.heap.size w w' → (∀ j, (decide (j < l.length) && free S l.length j) = true → (S j).know (vals j) w') → Q .normal (putAll l 0 a0 vals) w') : (Code.region id l.toArray false).wp P Q a0 w := by
  refine wp_region_lit ?_
  refine ord_sound (S := S) (w0 := w) (a0 := a0) hgood (by simpa using hlast) ?_ (fun i o ho => ?_) (fun vals w' hb hk => ?_) l 0 (fun j => by simp) (Array.replicate l.length false) a0 w (fun _ => undef) ?_ ?_
  · intro j oj d hoj hd
    have h1 : oj ∈ l := by simpa using Array.mem_of_getElem? hoj
    have := List.all_eq_true.1 hfits oj h1
    simpa [hd] using this
  · have := OwesAll.get l 0 howe i o (by simpa using ho)
    simpa using this
  · have hf := hfin vals w' hb (fun j hj => by
      simp only [Bool.and_eq_true, decide_eq_true_eq] at hj
      exact hk j (by simpa using hj.1) (by simpa using free_spec hj.2))
    simpa using hf
  · have hfalse : ∀ j, (Array.replicate l.length false).getD j false = false := by
      intro j
      simp only [Array.getD_eq_getD_getElem?, Array.getElem?_replicate]
      split <;> rfl
    refine ⟨by simp, ?_, Below.refl _ _, fun k o _ hk => ?_, fun j _ hj => ?_, fun i j _ _ _ hi => ?_⟩
    · obtain ⟨tm, df⟩ := a0
      simp only [Act.mk.injEq, and_true]
      apply Array.ext_getElem?
      intro t
      simp only [frame, Array.getElem?_mapIdx, hfalse]
      cases tm[t]? with
      | none => rfl
      | some x => cases hj : writer l.toArray t <;> simp
    · rw [hfalse] at hk; cases hk
    · rw [hfalse] at hj; cases hj
    · rw [hfalse] at hi; cases hi
  · intro i hi
    simp only [Array.getD_eq_getD_getElem?, Array.getElem?_replicate]
    rw [decide_eq_false (by omega)]
    split <;> rfl
/-- A guarded operation whose guard is itself guarded. -/
theorem owes_guardc {i : Nat} {o : Oper} {j : Nat} {want : Bool} {d : Tmp} {b : Bool} {x : Value} {c : Prop} [Decidable c] (hg : o.guard = some (j, want)) (hd : (ops[j]?).bind (·.dst) = some d) (hseen : ((o.looksAt ops).contains d && (writer ops d == some j && !late ops i j)) = true)
    (hS : S i = val (if c ∧ b = want then x else undef)) (hSj : S j = val (if c then .bool b else undef))
    (h : c ∧ b = want → ∀ ρ w, Sees ops S w0 a0 i o ρ w → Below w0.heap.size w0 w → (∀ c, ρ (.const c) = c) → OpOk P o ρ w (Is x w)) : Owes P ops S w0 a0 i o := by
  intro ρ w hs
  have hb : ρ (.tmp d) = if c then .bool b else undef := by
    have := hs.new' d j hseen
    rw [hSj] at this
    exact this
  by_cases hbw : c ∧ b = want
  · have hw : wantR ops ρ o = true := by unfold wantR; rw [hg]; simp only [hd, hb, if_pos hbw.1]; simpa using hbw.2
    rw [if_pos hw]
    have := h hbw ρ w hs hs.below hs.const
    have hp : ∀ v w', Is x w v w' → Post ops S w0 i ρ w v w' := fun v w' ⟨hv, hb'⟩ => by
      rw [if_pos hbw] at hS
      exact ⟨by rw [hS]; exact hv, hs.below.trans (hb'.mono hs.below.size), hb'.size, fun b hlt _ => hb'.block b hlt, fun b h => by rw [hS] at h; cases h⟩
    unfold OpOk at *
    generalize (execOp ρ o).run P w = r at *
    cases r with
    | ok n w' =>
      cases n <;> simp only at this ⊢
      case value v => exact hp _ _ this
      case skip => exact hp _ _ this
      case enter f args => exact this.mono fun e w'' ⟨v, he, hv⟩ => ⟨v, he, hp _ _ hv⟩
    | halt y w' => exact this
  · have hw : wantR ops ρ o = false := by
      unfold wantR
      rw [hg]
      simp only [hd, hb]
      by_cases hc : c
      · rw [if_pos hc]
        simp only [beq_eq_false_iff_ne]
        exact fun e => hbw ⟨hc, e⟩
      · rw [if_neg hc]; rfl
    rw [hw, if_neg (by decide), hS, if_neg hbw]
    exact ⟨rfl, rfl⟩
end
end Go.Proofs.Ytjabjfkfoenmlaa.Any
