/- A region that draws its order, of which some operations turn the world: by stages. No program in sight. A row appended to an own row, in a region that keeps its order. No program in sight. From a walk that returns true and leaves old memory as it was to the row of a law. -/
import Derived.Test.YtnbhneeohkfocaaDoorTo02
import Derived.Test.YtnbhneeohkfocaaDoorTo04
import Derived.Test.YtnbhneeohkfocaaDoorTo01
import Derived.Test.YtnbhneeohkfocaaDoorRows
namespace Go.Proofs.YtnbhneeohkfocaaDoor.Stg
open Go Go.RowKit _root_.Go.Proofs.YtnbhneeohkfocaaDoor.Any
set_option maxRecDepth 100000
section
variable {P : Program} {ops : Array Oper} {Q : Exit → Act → World → Prop}

/-- What holds of the world: of the operations told (the last first) the last one that was carried out says it; w0 where none was. -/
def stageW (w0 : World) : List (Nat × (World → Prop)) → (Nat → Bool) → World → Prop
  | [], _, w => w = w0
  | (i, R) :: r, L, w => if L i = true then R w else stageW w0 r L w
def add (L : Nat → Bool) (i : Nat) : Nat → Bool := fun j => if j = i then true else L j
theorem stage_add {w0 w : World} {L : Nat → Bool} {i : Nat} : ∀ {st : List (Nat × (World → Prop))}, (st.all fun p => !decide (p.1 = i)) = true → stageW w0 st L w → stageW w0 st (add L i) w
  | [], _, h => h
  | (k, R) :: r, hc, h => by
    simp only [List.all_cons, Bool.and_eq_true, Bool.not_eq_true', decide_eq_false_iff_not] at hc
    have hk : add L i k = L k := if_neg hc.1
    unfold stageW at h ⊢
    rw [hk]
    split
    · rename_i e; rwa [if_pos e] at h
    · rename_i e; rw [if_neg e] at h; exact stage_add hc.2 h

/-- What an operation may use. -/
structure Sees (ops : Array Oper) (x : Nat → Value) (w0 : World) (st : List (Nat × (World → Prop))) (a0 : Act) (i : Nat) (o : Oper) (ρ : Operand → Value) (L : Nat → Bool) (w : World) : Prop where
  world : stageW w0 st L w
  me : L i = false
  done : ∀ e ∈ o.after, Region.binds .any e = true → L e.on = true
  closed : ∀ (k : Nat) (ok : Oper), ops[k]? = some ok → L k = true → ∀ e ∈ ok.after, Region.binds .any e = true → L e.on = true
  const : ∀ c, ρ (.const c) = c
  glob : ∀ g, ρ (.global g) = .pointer (some ⟨g, 0, none⟩)
  func : ∀ f, ρ (.func f) = .func (.func f) #[] #[]
  old : ∀ t, t ∈ o.looksAt ops → writer ops t = none → ρ (.tmp t) = a0.tmps.getD t undef
  new : ∀ t j, t ∈ o.looksAt ops → writer ops t = some j → late ops i j = false → ρ (.tmp t) = x j
  prior : ∀ t j, t ∈ o.looksAt ops → writer ops t = some j → late ops i j = true → ρ (.tmp t) = a0.tmps.getD t undef

def Owes (P : Program) (ops : Array Oper) (x : Nat → Value) (w0 : World) (st : List (Nat × (World → Prop))) (a0 : Act) (i : Nat) (o : Oper) : Prop :=
  ∀ (ρ : Operand → Value) (L : Nat → Bool) (w : World), Sees ops x w0 st a0 i o ρ L w →
    if wantR ops ρ o then OpOk P o ρ w (fun v w' => v = x i ∧ stageW w0 st (add L i) w') else x i = undef ∧ stageW w0 st (add L i) w

structure Inv (ops : Array Oper) (x : Nat → Value) (w0 : World) (st : List (Nat × (World → Prop))) (a0 : Act) (listed : Array Bool) (a : Act) (w : World) : Prop where
  size : listed.size = ops.size
  act : a = ⟨frame ops a0.tmps (fun j => listed.getD j false) x, a0.defers⟩
  closed : ∀ (k : Nat) (o : Oper), ops[k]? = some o → listed.getD k false = true → ∀ e ∈ o.after, Region.binds .any e = true → listed.getD e.on false = true
  world : stageW w0 st (fun j => listed.getD j false) w

variable {x : Nat → Value} {w0 : World} {st : List (Nat × (World → Prop))} {a0 : Act}

theorem Inv.step {listed : Array Bool} {a : Act} {w w' : World} (hgood : good ops (fun _ => []) = true)
    (hinv : Inv ops x w0 st a0 listed a w) {i : Nat} {o : Oper} {v : Value} (ho : ops[i]? = some o) (hpre : ∀ e ∈ o.after, Region.binds .any e = true → listed.getD e.on false = true)
    (hv : v = x i) (hw : stageW w0 st (add (fun j => listed.getD j false) i) w') : Inv ops x w0 st a0 (listed.setIfInBounds i true) (a.put o.dst v) w' := by
  have hin : i < ops.size := (Array.getElem?_eq_some_iff.1 ho).1
  have hil : i < listed.size := by rw [hinv.size]; exact hin
  obtain ⟨hsel, hat⟩ := good_spec hgood
  have G := goodAt_spec (hat i o ho)
  have hset := fun j => getD_set (listed := listed) hil j
  subst hv
  refine ⟨by simp [hinv.size], ?_, ?_, ?_⟩
  · rw [hinv.act, frame_put ho G.dst]
    have e2 : (fun j => if j = i then x i else x j) = x := by
      funext j
      split
      · subst_vars; rfl
      · rfl
    rw [e2]
    congr 2
    funext j
    rw [hset]
  · intro k ok hok hk e he hb
    rw [hset] at hk ⊢
    split
    · rfl
    · by_cases hki : k = i
      · subst hki
        rw [ho] at hok
        obtain rfl := Option.some.inj hok
        exact hpre e he hb
      · rw [if_neg hki] at hk
        exact hinv.closed k ok hok hk e he hb
  · have e : (fun j => (listed.setIfInBounds i true).getD j false) = add (fun j => listed.getD j false) i := by
      funext j
      rw [hset]; rfl
    rw [e]
    exact hw

theorem sound (hgood : good ops (fun _ => []) = true) (hfits : ∀ (j : Nat) (oj : Oper) (d : Tmp), ops[j]? = some oj → oj.dst = some d → d < a0.tmps.size)
    (howe : ∀ i o, ops[i]? = some o → Owes P ops x w0 st a0 i o)
    (hfin : ∀ L w, (∀ i, i < ops.size → L i = true) → stageW w0 st L w → Q .normal (putAll ops.toList 0 a0 x) w) :
    ∀ (fuel : Nat) (listed : Array Bool) (a : Act) (w : World), Inv ops x w0 st a0 listed a w → listed.count false ≤ fuel → wpAny P .any ops Q fuel listed a w := by
  obtain ⟨hsel, hat⟩ := good_spec hgood
  have hall : ∀ (listed : Array Bool) (a : Act) (w : World), Inv ops x w0 st a0 listed a w → Region.ready .any ops listed = [] → ∀ i, i < ops.size → listed.getD i false = true := by
    intro listed a w hinv hnil i
    induction i using Nat.strongRecOn with
    | _ i ih =>
      intro hi
      cases hc : listed.getD i false with
      | true => rfl
      | false =>
        exfalso
        have hil : i < listed.size := by rw [hinv.size]; exact hi
        have hm : i ∈ Region.ready .any ops listed := by
          rw [mem_ready]
          refine ⟨?_, ops[i], Array.getElem?_eq_getElem hi, fun e he hb => ?_⟩
          · simp only [Array.getD_eq_getD_getElem?, Array.getElem?_eq_getElem hil] at hc ⊢
            exact hc
          · have hlt := (goodAt_spec (hat i _ (Array.getElem?_eq_getElem hi))).early e he hb
            exact ih e.on hlt (by omega)
        rw [hnil] at hm
        cases hm
  have hend : ∀ (listed : Array Bool) (a : Act) (w : World), Inv ops x w0 st a0 listed a w → (∀ i, i < ops.size → listed.getD i false = true) → Q .normal a w := by
    intro listed a w hinv hL
    have hp := putAll_frame (ops := ops) (base := a0.tmps) (fun i o d ho hd => (goodAt_spec (hat i o ho)).dst d hd) a0.defers x ops.toList 0 (by intro j; simp)
    have e0 : (⟨frame ops a0.tmps (fun j => decide (j < 0)) x, a0.defers⟩ : Act) = a0 := by
      obtain ⟨tm, df⟩ := a0
      simp only [Act.mk.injEq, and_true]
      apply Array.ext_getElem?
      intro t
      simp only [frame, Array.getElem?_mapIdx]
      cases tm[t]? with
      | none => rfl
      | some y => cases hj : writer ops t <;> simp
    rw [e0] at hp
    have e1 : a = putAll ops.toList 0 a0 x := by
      rw [hp, hinv.act]
      congr 1
      apply Array.ext_getElem?
      intro t
      simp only [frame, Array.getElem?_mapIdx]
      congr 1
      funext y
      cases hj : writer ops t with
      | none => rfl
      | some j =>
        have hlt := (writer_some hj).1
        simp [hL j hlt, hlt]
    rw [e1]
    exact hfin _ w hL hinv.world
  intro fuel
  induction fuel with
  | zero =>
    intro listed a w hinv hc
    have hL : ∀ i, i < ops.size → listed.getD i false = true := by
      intro i hi
      have hil : i < listed.size := by rw [hinv.size]; exact hi
      cases hb : listed.getD i false with
      | true => rfl
      | false =>
        exfalso
        have h1 : listed[i] = false := by simpa [Array.getD_eq_getD_getElem?, hil] using hb
        have h2 : false ∈ listed := h1 ▸ Array.getElem_mem hil
        have h3 := Array.count_pos_iff.2 h2
        omega
    refine ⟨?_, hend listed a w hinv hL⟩
    cases hr : Region.ready .any ops listed with
    | nil => rfl
    | cons i rest =>
      exfalso
      have hm : i ∈ Region.ready .any ops listed := by rw [hr]; exact List.mem_cons_self
      rw [mem_ready] at hm
      obtain ⟨h1, o, ho, _⟩ := hm
      have hi := (Array.getElem?_eq_some_iff.1 ho).1
      have hil : i < listed.size := by rw [hinv.size]; exact hi
      have h2 := hL i hi
      simp only [Array.getD_eq_getD_getElem?, Array.getElem?_eq_getElem hil, Option.getD_some] at h1 h2
      rw [h1] at h2
      cases h2
  | succ fuel ih =>
    intro listed a w hinv hc
    refine ⟨fun hnil => hend listed a w hinv (hall listed a w hinv hnil), fun i hi => ?_⟩
    rw [mem_ready] at hi
    obtain ⟨hL, o, ho, hpre⟩ := hi
    have hin := (Array.getElem?_eq_some_iff.1 ho).1
    have hil : i < listed.size := by rw [hinv.size]; exact hin
    have hLf : listed[i] = false := by simpa [Array.getD_eq_getD_getElem?, hil] using hL
    have hcount : (listed.setIfInBounds i true).count false ≤ fuel := by
      rw [Array.setIfInBounds_def, dif_pos hil, Array.count_set, hLf]
      have h3 : 0 < listed.count false := Array.count_pos_iff.2 (hLf ▸ Array.getElem_mem hil)
      simp
      omega
    have G := goodAt_spec (hat i o ho)
    have hpre' : ∀ e ∈ o.after, Region.binds .any e = true → listed.getD e.on false = true := fun e he hb => hpre e he hb
    have hsees : Sees ops x w0 st a0 i o a.eval (fun j => listed.getD j false) w := by
      refine ⟨hinv.world, by simp [Array.getD_eq_getD_getElem?, hil, hLf], hpre', hinv.closed, fun _ => rfl, fun _ => rfl, fun _ => rfl, fun t _ hw => ?_, fun t j ht hw hla => ?_, fun t j _ hw hla => ?_⟩
      · rw [hinv.act]; exact read_old hw
      · obtain ⟨he, hone⟩ := G.looks t j ht hw hla
        obtain ⟨e, hea, heb, hej⟩ := edge_spec he
        have hLj : listed.getD j false = true := hej ▸ hpre' e hea heb
        obtain ⟨hjn, hjd⟩ := writer_some hw
        have htl : t < a0.tmps.size := by
          cases hoj : ops[j]? with
          | none => rw [hoj] at hjd; cases hjd
          | some oj => rw [hoj] at hjd; exact hfits j oj t hoj hjd
        rw [hinv.act]
        exact read_frame (L := fun j => listed.getD j false) hw hLj htl
      · rw [hinv.act]
        refine read_late (L := fun j => listed.getD j false) hw ?_
        cases hLj : listed.getD j false with
        | false => rfl
        | true =>
          exfalso
          unfold late at hla
          cases hoj : ops[j]? with
          | none => rw [hoj] at hla; cases hla
          | some oj =>
            rw [hoj] at hla
            obtain ⟨e', he', hb', hon⟩ := edge_spec hla
            have := hinv.closed j oj hoj hLj e' he' hb'
            rw [hon] at this
            simp [Array.getD_eq_getD_getElem?, hil, hLf] at this
    have hO := howe i o ho a.eval _ w hsees
    unfold wpOp
    simp only [ho]
    rw [wanted_eq]
    split
    · rename_i hw
      rw [if_pos hw] at hO
      refine .inl (OpOk.wp hO fun v w' hpost => ?_)
      exact ih _ _ _ (hinv.step hgood ho hpre' hpost.1 hpost.2) hcount
    · rename_i hw
      rw [if_neg hw] at hO
      exact ih _ _ _ (hinv.step hgood ho hpre' hO.1.symm hO.2) hcount

def OwesAll (P : Program) (ops : Array Oper) (x : Nat → Value) (w0 : World) (st : List (Nat × (World → Prop))) (a0 : Act) : Nat → List Oper → Prop
  | _, [] => True
  | k, o :: r => Owes P ops x w0 st a0 k o ∧ OwesAll P ops x w0 st a0 (k + 1) r
theorem OwesAll.get : ∀ (l : List Oper) (k : Nat), OwesAll P ops x w0 st a0 k l → ∀ i o, l[i]? = some o → Owes P ops x w0 st a0 (k + i) o
  | [], _, _, i, o, h => by simp at h
  | y :: r, k, h, 0, o, ho => by
    simp only [List.getElem?_cons_zero, Option.some.injEq] at ho
    subst ho
    exact h.1
  | y :: r, k, h, i + 1, o, ho => by
    have := OwesAll.get r (k + 1) h.2 i o (by simpa using ho)
    rw [show k + (i + 1) = k + 1 + i from by omega]
    exact this

theorem stage_none : ∀ (st : List (Nat × (World → Prop))) (L : Nat → Bool) (w : World), (∀ j, L j = false) → w = w0 → stageW w0 st L w
  | [], _, _, _, h => h
  | (i, R) :: r, L, w, hL, h => by
    unfold stageW
    rw [if_neg (by rw [hL]; decide)]
    exact stage_none r L w hL h

/-- The region: the values, and the operations that turn the world (the last first), each with what holds behind it. -/
theorem region_lit (x : Nat → Value) {id : Nat} {a0 : Act} {w : World} (st : List (Nat × (World → Prop))) {l : List Oper} (hm : P.follows .mixedOrders = true) (hgood : good l.toArray (fun _ => []) = true)
    (hfits : (l.all fun o => match o.dst with | some d => decide (d < a0.tmps.size) | none => true) = true)
    (howe : OwesAll P l.toArray x w.drew st a0 0 l)
    (hfin : ∀ L w', (∀ i, decide (i < l.length) = true → L i = true) → stageW w.drew st L w' → Q .normal (putAll l 0 a0 x) w') : (Code.region id l.toArray true).wp P Q a0 w := by
  refine wp_region_any hm ?_
  refine sound (x := x) (w0 := w.drew) (st := st) (a0 := a0) hgood ?_ (fun i o ho => ?_) (fun L w' hL h => hfin L w' (fun i hi => hL i (by simpa using hi)) h) l.toArray.size _ a0 w.drew ?_ ?_
  · intro j oj d hoj hd
    have h1 : oj ∈ l := by simpa using Array.mem_of_getElem? hoj
    have := List.all_eq_true.1 hfits oj h1
    simpa [hd] using this
  · have := OwesAll.get l 0 howe i o (by simpa using ho)
    simpa using this
  · have hfalse : ∀ j, (Array.replicate l.toArray.size false).getD j false = false := by
      intro j
      simp only [Array.getD_eq_getD_getElem?, Array.getElem?_replicate]
      split <;> rfl
    refine ⟨by simp, ?_, fun k o _ hk => ?_, stage_none _ _ _ hfalse rfl⟩
    · obtain ⟨tm, df⟩ := a0
      simp only [Act.mk.injEq, and_true]
      apply Array.ext_getElem?
      intro t
      simp only [frame, Array.getElem?_mapIdx, hfalse]
      cases tm[t]? with
      | none => rfl
      | some y => cases hj : writer l.toArray t <;> simp
    · rw [hfalse] at hk; cases hk
  · exact Nat.le_trans Array.count_le_size (by simp)

variable {i : Nat} {o : Oper} {ρ : Operand → Value} {L : Nat → Bool} {w : World}
theorem Sees.old' (h : Sees ops x w0 st a0 i o ρ L w) (t : Tmp) (hc : ((o.looksAt ops).contains t && oldAt ops i t) = true) : ρ (.tmp t) = a0.tmps.getD t undef := by
  simp only [Bool.and_eq_true, List.contains_iff_mem, oldAt] at hc
  cases hw : writer ops t with
  | none => exact h.old t hc.1 hw
  | some j =>
    have h2 := hc.2
    rw [hw] at h2
    exact h.prior t j hc.1 hw h2
theorem Sees.new' (h : Sees ops x w0 st a0 i o ρ L w) (t : Tmp) (j : Nat) (hc : ((o.looksAt ops).contains t && (writer ops t == some j && !late ops i j)) = true) : ρ (.tmp t) = x j := by
  simp only [Bool.and_eq_true, List.contains_iff_mem, beq_iff_eq, Bool.not_eq_true'] at hc
  exact h.new t j hc.1 hc.2.1 hc.2.2
/-- An operation that waits for this one was not carried out yet. -/
theorem Sees.before (h : Sees ops x w0 st a0 i o ρ L w) (k : Nat) (hc : late ops i k = true) : L k = false := by
  cases hk : L k with
  | false => rfl
  | true =>
    exfalso
    unfold late at hc
    cases hoj : ops[k]? with
    | none => rw [hoj] at hc; cases hc
    | some ok =>
      rw [hoj] at hc
      obtain ⟨e', he', hb', hon⟩ := edge_spec hc
      have := h.closed k ok hoj hk e' he' hb'
      rw [hon, h.me] at this
      cases this
/-- .. nor is one that waits for one that waits for this one. -/
theorem Sees.before2 (h : Sees ops x w0 st a0 i o ρ L w) (k j : Nat) (hc : (late ops i k && late ops k j) = true) : L j = false := by
  simp only [Bool.and_eq_true] at hc
  cases hk : L j with
  | false => rfl
  | true =>
    exfalso
    have h2 := hc.2
    unfold late at h2
    cases hoj : ops[j]? with
    | none => rw [hoj] at h2; cases h2
    | some ok =>
      rw [hoj] at h2
      obtain ⟨e', he', hb', hon⟩ := edge_spec h2
      have := h.closed j ok hoj hk e' he' hb'
      rw [hon, h.before k hc.1] at this
      cases this
/-- An operation that this one waits for was carried out. -/
theorem Sees.behind (h : Sees ops x w0 st a0 i o ρ L w) (k : Nat) (hc : edge o k = true) : L k = true := by
  obtain ⟨e, he, hb, hon⟩ := edge_spec hc
  exact hon ▸ h.done e he hb

/-- An operation that leaves the world as it is. -/
theorem owes_pure (hg : o.guard = none) (hc : (st.all fun p => !decide (p.1 = i)) = true)
    (h : ∀ ρ L w, Sees ops x w0 st a0 i o ρ L w → (∀ c, ρ (.const c) = c) → OpOk P o ρ w (fun v w' => v = x i ∧ w' = w)) : Owes P ops x w0 st a0 i o := by
  intro ρ L w hs
  have hw : wantR ops ρ o = true := by unfold wantR; rw [hg]
  rw [if_pos hw]
  have h1 := h ρ L w hs hs.const
  unfold OpOk at *
  generalize (execOp ρ o).run P w = r at *
  have hp : ∀ v w', v = x i ∧ w' = w → v = x i ∧ stageW w0 st (add L i) w' := fun v w' hh => ⟨hh.1, by rw [hh.2]; exact stage_add hc hs.world⟩
  cases r with
  | ok n w' =>
    cases n <;> simp only at h1 ⊢
    case value v => exact hp _ _ h1
    case skip => exact hp _ _ h1
    case enter f args => exact h1.mono fun e w'' ⟨v, he, hv⟩ => ⟨v, he, hp _ _ hv⟩
  | halt y w' => exact h1
/-- .. that turns it: pre the later ones. -/
theorem owes_turn {pre r : List (Nat × (World → Prop))} {R : World → Prop} (hg : o.guard = none) (hst : st = pre ++ (i, R) :: r) (hpre : (pre.all fun p => late ops i p.1 && !decide (p.1 = i)) = true)
    (h : ∀ ρ L w, Sees ops x w0 st a0 i o ρ L w → (∀ c, ρ (.const c) = c) → stageW w0 r L w → OpOk P o ρ w (fun v w' => v = x i ∧ R w')) : Owes P ops x w0 st a0 i o := by
  intro ρ L w hs
  have hw : wantR ops ρ o = true := by unfold wantR; rw [hg]
  rw [if_pos hw]
  have hfront : ∀ (L' : Nat → Bool) (w' : World) (q : List (Nat × (World → Prop))), (q.all fun p => late ops i p.1 && !decide (p.1 = i)) = true → (∀ p ∈ q, L' p.1 = false) → (stageW w0 (q ++ (i, R) :: r) L' w' ↔ stageW w0 ((i, R) :: r) L' w') := by
    intro L' w' q
    induction q with
    | nil => intro _ _; exact Iff.rfl
    | cons p q ih =>
      intro hq hL
      simp only [List.all_cons, Bool.and_eq_true] at hq
      obtain ⟨k, S⟩ := p
      have hk := hL (k, S) List.mem_cons_self
      show (if L' k = true then S w' else _) ↔ _
      rw [if_neg (by rw [hk]; decide)]
      exact ih hq.2 fun p hp => hL p (List.mem_cons_of_mem _ hp)
  have hLp : ∀ p ∈ pre, L p.1 = false := fun p hp => by
    have := List.all_eq_true.1 hpre p hp
    simp only [Bool.and_eq_true] at this
    exact hs.before p.1 this.1
  have hLa : ∀ p ∈ pre, add L i p.1 = false := fun p hp => by
    have := List.all_eq_true.1 hpre p hp
    simp only [Bool.and_eq_true, Bool.not_eq_true', decide_eq_false_iff_not] at this
    exact (if_neg this.2).trans (hLp p hp)
  have hin : stageW w0 r L w := by
    have h1 := hs.world
    rw [hst] at h1
    have h2 := (hfront L w pre hpre hLp).1 h1
    unfold stageW at h2
    rwa [if_neg (by rw [hs.me]; decide)] at h2
  have h1 := h ρ L w hs hs.const hin
  have hp : ∀ v w', v = x i ∧ R w' → v = x i ∧ stageW w0 st (add L i) w' := fun v w' hh => ⟨hh.1, by
    rw [hst]
    refine (hfront (add L i) w' pre hpre hLa).2 ?_
    unfold stageW
    rw [if_pos (show add L i i = true from if_pos rfl)]
    exact hh.2⟩
  unfold OpOk at *
  generalize (execOp ρ o).run P w = q at *
  cases q with
  | ok n w' =>
    cases n <;> simp only at h1 ⊢
    case value v => exact hp _ _ h1
    case skip => exact hp _ _ h1
    case enter f args => exact h1.mono fun e w'' ⟨v, he, hv⟩ => ⟨v, he, hp _ _ hv⟩
  | halt y w' => exact h1
theorem stage_not {R : World → Prop} {r : List (Nat × (World → Prop))} (h : stageW w0 ((i, R) :: r) L w) (hL : L i = false) : stageW w0 r L w := by
  unfold stageW at h
  rwa [if_neg (by rw [hL]; decide)] at h
theorem stage_head {R : World → Prop} {r : List (Nat × (World → Prop))} (h : stageW w0 ((i, R) :: r) L w) (hL : L i = true) : R w := by
  unfold stageW at h
  rwa [if_pos hL] at h
theorem stage_one {R : World → Prop} {C : World → Prop} (h : stageW w0 [(i, R)] L w) (h0 : C w0) (hR : ∀ v, R v → C v) : C w := by
  unfold stageW at h
  split at h
  · exact hR _ h
  · have e : w = w0 := h
    rw [e]; exact h0
theorem ok_store_row {t : TypeId} {p v : Operand} {pos : String} {after : Array Edge} {ty : TypeId} {g : Nat} {cells old : Array Value} {T : TypeId} {R : Value → World → Prop}
    (hx : ρ p = .pointer (some ⟨g, 0, none⟩)) (hy : ρ v = .agg cells) (hg : w.heap[g]? = some (.cells old T (0, 0))) (hi : (P.info? ty).map (·.size) = some cells.size) (hold : old.size = cells.size) (h1 : cells.all (·.oneCell') = true)
    (h : R undef (w.setRow g cells)) : OpOk P ⟨none, .store ty p v, t, pos, after, none⟩ ρ w R := by
  have hr : (execOp ρ ⟨none, .store ty p v, t, pos, after, none⟩).run P w = .ok .skip (w.setRow g cells) := by
    simp only [execOp, hx, hy, Instr.storeAt, Instr.sureAddr, Sem.run_bind, Sem.run_pure, Result.andThen_ok, run_storeVar_row w g T ty old cells hg hi hold h1]
  unfold OpOk
  rw [hr]
  exact h
end
end Go.Proofs.YtnbhneeohkfocaaDoor.Stg
namespace Go.Proofs.YtnbhneeohkfocaaDoor.Stg
open Go Go.RowKit _root_.Go.Proofs.YtnbhneeohkfocaaDoor.Any
set_option maxRecDepth 100000
section
variable {P : Program} {ops : Array Oper} {x : Nat → Value} {w0 : World} {st : List (Nat × (World → Prop))} {a0 : Act} {i : Nat} {o : Oper} {ρ : Operand → Value} {L : Nat → Bool} {w : World}
theorem Sees.closedR (h : Sees ops x w0 st a0 i o ρ L w) : ∀ (n k j : Nat), Ord.reach ops n k j = true → L k = true → L j = true
  | 0, k, j, hr, hk => by
    obtain rfl : k = j := by simpa [Ord.reach] using hr
    exact hk
  | n + 1, k, j, hr, hk => by
    rw [Ord.reach, Bool.or_eq_true] at hr
    rcases hr with hr | hr
    · obtain rfl : k = j := by simpa using hr
      exact hk
    · cases hok : ops[k]? with
      | none => rw [hok] at hr; cases hr
      | some ok =>
        rw [hok] at hr
        simp only [Array.any_eq_true, Bool.and_eq_true] at hr
        obtain ⟨m, hm, h1, h2⟩ := hr
        exact Sees.closedR h n _ j h2 (h.closed k ok hok hk _ (Array.getElem_mem hm) h1)
/-- An operation that waits for this one, over edges, was not carried out. -/
theorem Sees.beforeR (h : Sees ops x w0 st a0 i o ρ L w) (k : Nat) (hc : Ord.reach ops ops.size k i = true) : L k = false := by
  cases hk : L k with
  | false => rfl
  | true =>
    have := h.closedR _ _ _ hc hk
    rw [h.me] at this
    cases this
/-- An operation that this one waits for, over edges, was carried out. -/
theorem Sees.behindR (h : Sees ops x w0 st a0 i o ρ L w) (k j : Nat) (hc : (edge o k && Ord.reach ops ops.size k j) = true) : L j = true := by
  rw [Bool.and_eq_true] at hc
  exact h.closedR _ _ _ hc.2 (h.behind k hc.1)
end
end Go.Proofs.YtnbhneeohkfocaaDoor.Stg
namespace Go.Proofs.YtnbhneeohkfocaaDoor.Any
open Go Go.RowKit
variable {P : Program} {ops : Array Oper} {Q : Exit → Act → World → Prop}
theorem wpl_cat {te e : TypeId} {i : TypeInfo} {z : Value} {size bytes base : Nat} {n m : Nat} {xs news : List Value} {dst : Option Tmp} {x y : Operand} {t : TypeId} {pos : String} {after : Array Edge} {gd : Option (Nat × Bool)} {vx vy : Value} {a : Act} {w : World} {rest : List Oper}
    (hw : Region.wanted ⟨dst, .call ⟨.builtin .append, #[x, y], #[te, te]⟩, t, pos, after, gd⟩ (yielded ops a.tmps) = true) (hx : a.eval x = vx) (hy : a.eval y = vy)
    (hu : P.underlying te = some (.slice e)) (hi : P.info? e = some i) (hz : i.zero = some z)
    (hsz : i.size = size) (hby : i.bytes = bytes) (hzs : z.cells.size = size) (hpos : 0 < size) (hown : w.ownsRow base e size vx n xs) (hsrc : Sc.Src w size vy m news)
    (h1 : ∀ u ∈ news, u.oneCell' = true) (h63 : n + m ≤ maxLen) (hb : (n + m) * bytes ≤ 140737488355328) (hbase : base ≤ w.heap.size)
    (h : ∀ v' w', w'.ownsRow base e size v' (n + m) (xs ++ news) → w.grownBy w' vx.ownBlock → (∀ b, v'.ownBlock = some b → vx.ownBlock = some b ∨ w.heap.size ≤ b) → wpList P ops Q rest (a.put dst v') w') :
    wpList P ops Q (⟨dst, .call ⟨.builtin .append, #[x, y], #[te, te]⟩, t, pos, after, gd⟩ :: rest) a w := by
  subst hx hy
  exact wpl hw (ok_append_own hu hi hz hsz hby hzs hpos hown hsrc h1 h63 hb hbase h)
end Go.Proofs.YtnbhneeohkfocaaDoor.Any
namespace Go.Proofs.YtnbhneeohkfocaaDoor.Sc
open Go Go.RowKit Go.ChangeShapes Go.WideShapes Go.ChangeAt

theorem own : ownKnob Tryd.prog.godebug = none := by kernel_rfl
theorem laidOut : laidOutB Tryd.prog = true := by kernel_rfl

def RetB (w : World) (b : Bool) : Ending → World → Prop := Ret w (.bool b)
theorem retB {w w' : World} {b b' : Bool} (h : b' = b) (hb : Below w.heap.size w w') : RetB w b (.returned (.bool b')) w' := by subst h; exact ⟨rfl, hb⟩

theorem trodAll_below {H : Type} {enc : TypeId × Value → H} {W W' : World} (hb : Below W.heap.size W W') :
    ∀ (ts : List TypeId) (vs : List Value) (ds : List (DataW H)) (ps : List MemPlace), ts.all (fun t => Tryd.prog.readableRec t && decide (t < Tryd.prog.types.size)) = true →
      DataW.TrodAll enc Tryd.prog W 0 (fun _ => true) true ts vs ds ps → DataW.TrodAll enc Tryd.prog W' 0 (fun b => decide (b < W.heap.size)) true ts vs ds ps := by
  intro ts
  induction ts with
  | nil =>
    intro vs ds ps _ h
    obtain ⟨rfl, rfl, rfl⟩ := trodAll_nil h
    exact trodAll_mk0
  | cons t ts ih =>
    intro vs ds ps hg h
    obtain ⟨v, vs', d, ds', p, q, rfl, rfl, rfl, h1, h2⟩ := trodAll_cons h
    simp only [List.all_cons, Bool.and_eq_true, decide_eq_true_eq] at hg
    refine trodAll_cons_mk (Below.trod laidOut hg.1.1 hg.1.2 h1 hb ?_) (ih vs' ds' q hg.2 h2)
    obtain ⟨m, hm⟩ := h1
    exact DataW.trod_lt m _ _ _ hm

/-- What the row asks behind the call. -/
theorem law_post {H : Type} {enc : TypeId × Value → H} {fn : Func} {s : ChangeSpec} {W W' : World} {args : Array Value} {ds : List (DataW H)} {before p : List MemPlace}
    (hW : DataW.Whole enc Tryd.prog fn.params.toList s.vars false W args.toList ds [] before)
    (hA : DataW.TrodAll enc Tryd.prog W 0 (fun _ => true) true fn.params.toList args.toList ds p) (hbef : before = p)
    (hgood : fn.params.toList.all (fun t => Tryd.prog.readableRec t && decide (t < Tryd.prog.types.size)) = true)
    (hres : fn.resultTypes = #[4]) (hvars : s.vars = [])
    (hspec : s.fn H (ds ++ []) = { results := [.lit (.bool true)], args := ds })
    (hb : Below W.heap.size W W') : s.post enc Tryd.prog fn false true false false W args (.bool true) W' := by
  subst hbef
  refine ⟨_, _, _, [], before, [], hW, ?_, ?_, ?_, hb.frame _, fun h => by cases h⟩
  · rw [hspec, hres]
    exact trodAll_mk1 (shut_bool Tryd.underlying4 _)
  · rw [hspec]
    exact trodAll_below hb _ _ _ _ hgood hA
  · rw [hspec, hvars]
    rfl

set_option maxRecDepth 100000 in
/-- The lifted form of a law. -/
theorem law_lifted (os : Os) (started : os.Started) {H : Type} {enc : TypeId × Value → H} {f : FuncId} {fn : Func} {s : ChangeSpec}
    (noInit : Tryd.prog.inits.idxOf? f = none) (hfn : Tryd.prog.funcs[f]? = some fn)
    (witness : ∃ (w : World) (tape : Tape) (i : Input), w.os = os ∧ (w.forCall tape i).Shaped Tryd.checked.prog ∧ i.vars = [] ∧ Input.okWide Tryd.checked.prog (w.forCall tape i) .any w.heap.size f i ∧
      s.pre6 enc Tryd.checked.prog fn [] false (w.forCall tape i).memory i.args ∧ ({} : Assume).holds Tryd.checked.prog (lone (Frame.enter Tryd.checked.prog f i.args .normal) [] (w.forCall tape i)))
    (hgood : fn.params.toList.all (fun t => Tryd.prog.readableRec t && decide (t < Tryd.prog.types.size)) = true)
    (hres : fn.resultTypes = #[4]) (hvars : s.vars = [])
    (hspec : ∀ (vs : List Value) (ds : List (DataW H)) (W : World) (p : List MemPlace), DataW.TrodAll enc Tryd.prog W 0 (fun _ => true) true fn.params.toList vs ds p → s.fn H (ds ++ []) = { results := [.lit (.bool true)], args := ds })
    (walk : ∀ (W : World) (base : Nat) (args : Array Value) (ds : List (DataW H)) (p : List MemPlace), (∀ (j : Nat) t v, fn.params[j]? = some t → args[j]? = some v → Value.okWide Tryd.prog W .any base t v) →
      DataW.TrodAll enc Tryd.prog W 0 (fun _ => true) true fn.params.toList args.toList ds p → Calls Tryd.prog f args W (RetB W true)) :
    ReturnsInHanded {} Tryd.checked os f .any (s.pre6 enc Tryd.prog fn [] false) (s.post enc Tryd.prog fn false true false false) := by
  refine returnsInHanded_of_change (C := Tryd.checked) own started noInit hfn witness ?_
  intro W base args ds gs before hval hW _ _
  have hW' := hW
  obtain ⟨p, q, hA, hV, hbef, _, _⟩ := hW
  rw [hvars] at hV
  obtain ⟨rfl, rfl⟩ := trodVars_none hV
  rw [List.append_nil] at hbef
  refine (walk W base args ds p hval hA).mono fun e W' h => ?_
  exact ⟨_, h.1, law_post hW' hA hbef hgood hres hvars (hspec _ _ _ _ hA) h.2⟩

end Go.Proofs.YtnbhneeohkfocaaDoor.Sc
