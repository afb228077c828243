/- add: by the program. -/
import Derived.Test.YtgnfdplphpejaaaDoorAny
import Derived.Test.YtgnfdplphpejaaaDoorOrd
import Derived.Test.YtgnfdplphpejaaaDoorBoxM12
import Derived.Test.YtgnfdplphpejaaaDoorFillB12
import Derived.Test.YtgnfdplphpejaaaDoorFresh12
namespace Go.Proofs.YtgnfdplphpejaaaDoor.Stg
open Go Go.RowKit _root_.Go.Proofs.YtgnfdplphpejaaaDoor.Any
set_option maxRecDepth 100000
section
variable {P : Program} {ops : Array Oper} {Q : Exit → Act → World → Prop}

/-- What holds of the world: of the operations told (the last first) the last one that was carried out says it; w0 where none was. -/
def stageW (w0 : World) : List (Nat × (World → Prop)) → (Nat → Bool) → World → Prop
  | [], _, w => w = w0
  | (i, R) :: r, L, w => if L i = true then R w else stageW w0 r L w
def add (L : Nat → Bool) (i : Nat) : Nat → Bool := fun j => if j = i then true else L j
theorem stage_add {w0 w : World} {L : Nat → Bool} {i : Nat} : ∀ {st : List (Nat × (World → Prop))}, (st.all fun p => !decide (p.1 = i)) = true → stageW w0 st L w → stageW w0 st (add L i) w
  | [], _, h => h
  | (k, R) :: r, hc, h => by
    simp only [List.all_cons, Bool.and_eq_true, Bool.not_eq_true', decide_eq_false_iff_not] at hc
    have hk : add L i k = L k := if_neg hc.1
    unfold stageW at h ⊢
    rw [hk]
    split
    · rename_i e; rwa [if_pos e] at h
    · rename_i e; rw [if_neg e] at h; exact stage_add hc.2 h

/-- What an operation may use. -/
structure Sees (ops : Array Oper) (x : Nat → Value) (w0 : World) (st : List (Nat × (World → Prop))) (a0 : Act) (i : Nat) (o : Oper) (ρ : Operand → Value) (L : Nat → Bool) (w : World) : Prop where
  world : stageW w0 st L w
  me : L i = false
  done : ∀ e ∈ o.after, Region.binds .any e = true → L e.on = true
  closed : ∀ (k : Nat) (ok : Oper), ops[k]? = some ok → L k = true → ∀ e ∈ ok.after, Region.binds .any e = true → L e.on = true
  const : ∀ c, ρ (.const c) = c
  glob : ∀ g, ρ (.global g) = .pointer (some ⟨g, 0, none⟩)
  func : ∀ f, ρ (.func f) = .func (.func f) #[] #[]
  old : ∀ t, t ∈ o.looksAt ops → writer ops t = none → ρ (.tmp t) = a0.tmps.getD t undef
  new : ∀ t j, t ∈ o.looksAt ops → writer ops t = some j → late ops i j = false → ρ (.tmp t) = x j
  prior : ∀ t j, t ∈ o.looksAt ops → writer ops t = some j → late ops i j = true → ρ (.tmp t) = a0.tmps.getD t undef

def Owes (P : Program) (ops : Array Oper) (x : Nat → Value) (w0 : World) (st : List (Nat × (World → Prop))) (a0 : Act) (i : Nat) (o : Oper) : Prop :=
  ∀ (ρ : Operand → Value) (L : Nat → Bool) (w : World), Sees ops x w0 st a0 i o ρ L w →
    if wantR ops ρ o then OpOk P o ρ w (fun v w' => v = x i ∧ stageW w0 st (add L i) w') else x i = undef ∧ stageW w0 st (add L i) w

structure Inv (ops : Array Oper) (x : Nat → Value) (w0 : World) (st : List (Nat × (World → Prop))) (a0 : Act) (listed : Array Bool) (a : Act) (w : World) : Prop where
  size : listed.size = ops.size
  act : a = ⟨frame ops a0.tmps (fun j => listed.getD j false) x, a0.defers⟩
  closed : ∀ (k : Nat) (o : Oper), ops[k]? = some o → listed.getD k false = true → ∀ e ∈ o.after, Region.binds .any e = true → listed.getD e.on false = true
  world : stageW w0 st (fun j => listed.getD j false) w

variable {x : Nat → Value} {w0 : World} {st : List (Nat × (World → Prop))} {a0 : Act}

theorem Inv.step {listed : Array Bool} {a : Act} {w w' : World} (hgood : good ops (fun _ => []) = true)
    (hinv : Inv ops x w0 st a0 listed a w) {i : Nat} {o : Oper} {v : Value} (ho : ops[i]? = some o) (hpre : ∀ e ∈ o.after, Region.binds .any e = true → listed.getD e.on false = true)
    (hv : v = x i) (hw : stageW w0 st (add (fun j => listed.getD j false) i) w') : Inv ops x w0 st a0 (listed.setIfInBounds i true) (a.put o.dst v) w' := by
  have hin : i < ops.size := (Array.getElem?_eq_some_iff.1 ho).1
  have hil : i < listed.size := by rw [hinv.size]; exact hin
  obtain ⟨hsel, hat⟩ := good_spec hgood
  have G := goodAt_spec (hat i o ho)
  have hset := fun j => getD_set (listed := listed) hil j
  subst hv
  refine ⟨by simp [hinv.size], ?_, ?_, ?_⟩
  · rw [hinv.act, frame_put ho G.dst]
    have e2 : (fun j => if j = i then x i else x j) = x := by
      funext j
      split
      · subst_vars; rfl
      · rfl
    rw [e2]
    congr 2
    funext j
    rw [hset]
  · intro k ok hok hk e he hb
    rw [hset] at hk ⊢
    split
    · rfl
    · by_cases hki : k = i
      · subst hki
        rw [ho] at hok
        obtain rfl := Option.some.inj hok
        exact hpre e he hb
      · rw [if_neg hki] at hk
        exact hinv.closed k ok hok hk e he hb
  · have e : (fun j => (listed.setIfInBounds i true).getD j false) = add (fun j => listed.getD j false) i := by
      funext j
      rw [hset]; rfl
    rw [e]
    exact hw

theorem sound (hgood : good ops (fun _ => []) = true) (hfits : ∀ (j : Nat) (oj : Oper) (d : Tmp), ops[j]? = some oj → oj.dst = some d → d < a0.tmps.size)
    (howe : ∀ i o, ops[i]? = some o → Owes P ops x w0 st a0 i o)
    (hfin : ∀ L w, (∀ i, i < ops.size → L i = true) → stageW w0 st L w → Q .normal (putAll ops.toList 0 a0 x) w) :
    ∀ (fuel : Nat) (listed : Array Bool) (a : Act) (w : World), Inv ops x w0 st a0 listed a w → listed.count false ≤ fuel → wpAny P .any ops Q fuel listed a w := by
  obtain ⟨hsel, hat⟩ := good_spec hgood
  have hall : ∀ (listed : Array Bool) (a : Act) (w : World), Inv ops x w0 st a0 listed a w → Region.ready .any ops listed = [] → ∀ i, i < ops.size → listed.getD i false = true := by
    intro listed a w hinv hnil i
    induction i using Nat.strongRecOn with
    | _ i ih =>
      intro hi
      cases hc : listed.getD i false with
      | true => rfl
      | false =>
        exfalso
        have hil : i < listed.size := by rw [hinv.size]; exact hi
        have hm : i ∈ Region.ready .any ops listed := by
          rw [mem_ready]
          refine ⟨?_, ops[i], Array.getElem?_eq_getElem hi, fun e he hb => ?_⟩
          · simp only [Array.getD_eq_getD_getElem?, Array.getElem?_eq_getElem hil] at hc ⊢
            exact hc
          · have hlt := (goodAt_spec (hat i _ (Array.getElem?_eq_getElem hi))).early e he hb
            exact ih e.on hlt (by omega)
        rw [hnil] at hm
        cases hm
  have hend : ∀ (listed : Array Bool) (a : Act) (w : World), Inv ops x w0 st a0 listed a w → (∀ i, i < ops.size → listed.getD i false = true) → Q .normal a w := by
    intro listed a w hinv hL
    have hp := putAll_frame (ops := ops) (base := a0.tmps) (fun i o d ho hd => (goodAt_spec (hat i o ho)).dst d hd) a0.defers x ops.toList 0 (by intro j; simp)
    have e0 : (⟨frame ops a0.tmps (fun j => decide (j < 0)) x, a0.defers⟩ : Act) = a0 := by
      obtain ⟨tm, df⟩ := a0
      simp only [Act.mk.injEq, and_true]
      apply Array.ext_getElem?
      intro t
      simp only [frame, Array.getElem?_mapIdx]
      cases tm[t]? with
      | none => rfl
      | some y => cases hj : writer ops t <;> simp
    rw [e0] at hp
    have e1 : a = putAll ops.toList 0 a0 x := by
      rw [hp, hinv.act]
      congr 1
      apply Array.ext_getElem?
      intro t
      simp only [frame, Array.getElem?_mapIdx]
      congr 1
      funext y
      cases hj : writer ops t with
      | none => rfl
      | some j =>
        have hlt := (writer_some hj).1
        simp [hL j hlt, hlt]
    rw [e1]
    exact hfin _ w hL hinv.world
  intro fuel
  induction fuel with
  | zero =>
    intro listed a w hinv hc
    have hL : ∀ i, i < ops.size → listed.getD i false = true := by
      intro i hi
      have hil : i < listed.size := by rw [hinv.size]; exact hi
      cases hb : listed.getD i false with
      | true => rfl
      | false =>
        exfalso
        have h1 : listed[i] = false := by simpa [Array.getD_eq_getD_getElem?, hil] using hb
        have h2 : false ∈ listed := h1 ▸ Array.getElem_mem hil
        have h3 := Array.count_pos_iff.2 h2
        omega
    refine ⟨?_, hend listed a w hinv hL⟩
    cases hr : Region.ready .any ops listed with
    | nil => rfl
    | cons i rest =>
      exfalso
      have hm : i ∈ Region.ready .any ops listed := by rw [hr]; exact List.mem_cons_self
      rw [mem_ready] at hm
      obtain ⟨h1, o, ho, _⟩ := hm
      have hi := (Array.getElem?_eq_some_iff.1 ho).1
      have hil : i < listed.size := by rw [hinv.size]; exact hi
      have h2 := hL i hi
      simp only [Array.getD_eq_getD_getElem?, Array.getElem?_eq_getElem hil, Option.getD_some] at h1 h2
      rw [h1] at h2
      cases h2
  | succ fuel ih =>
    intro listed a w hinv hc
    refine ⟨fun hnil => hend listed a w hinv (hall listed a w hinv hnil), fun i hi => ?_⟩
    rw [mem_ready] at hi
    obtain ⟨hL, o, ho, hpre⟩ := hi
    have hin := (Array.getElem?_eq_some_iff.1 ho).1
    have hil : i < listed.size := by rw [hinv.size]; exact hin
    have hLf : listed[i] = false := by simpa [Array.getD_eq_getD_getElem?, hil] using hL
    have hcount : (listed.setIfInBounds i true).count false ≤ fuel := by
      rw [Array.setIfInBounds_def, dif_pos hil, Array.count_set, hLf]
      have h3 : 0 < listed.count false := Array.count_pos_iff.2 (hLf ▸ Array.getElem_mem hil)
      simp
      omega
    have G := goodAt_spec (hat i o ho)
    have hpre' : ∀ e ∈ o.after, Region.binds .any e = true → listed.getD e.on false = true := fun e he hb => hpre e he hb
    have hsees : Sees ops x w0 st a0 i o a.eval (fun j => listed.getD j false) w := by
      refine ⟨hinv.world, by simp [Array.getD_eq_getD_getElem?, hil, hLf], hpre', hinv.closed, fun _ => rfl, fun _ => rfl, fun _ => rfl, fun t _ hw => ?_, fun t j ht hw hla => ?_, fun t j _ hw hla => ?_⟩
      · rw [hinv.act]; exact read_old hw
      · obtain ⟨he, hone⟩ := G.looks t j ht hw hla
        obtain ⟨e, hea, heb, hej⟩ := edge_spec he
        have hLj : listed.getD j false = true := hej ▸ hpre' e hea heb
        obtain ⟨hjn, hjd⟩ := writer_some hw
        have htl : t < a0.tmps.size := by
          cases hoj : ops[j]? with
          | none => rw [hoj] at hjd; cases hjd
          | some oj => rw [hoj] at hjd; exact hfits j oj t hoj hjd
        rw [hinv.act]
        exact read_frame (L := fun j => listed.getD j false) hw hLj htl
      · rw [hinv.act]
        refine read_late (L := fun j => listed.getD j false) hw ?_
        cases hLj : listed.getD j false with
        | false => rfl
        | true =>
          exfalso
          unfold late at hla
          cases hoj : ops[j]? with
          | none => rw [hoj] at hla; cases hla
          | some oj =>
            rw [hoj] at hla
            obtain ⟨e', he', hb', hon⟩ := edge_spec hla
            have := hinv.closed j oj hoj hLj e' he' hb'
            rw [hon] at this
            simp [Array.getD_eq_getD_getElem?, hil, hLf] at this
    have hO := howe i o ho a.eval _ w hsees
    unfold wpOp
    simp only [ho]
    rw [wanted_eq]
    split
    · rename_i hw
      rw [if_pos hw] at hO
      refine .inl (OpOk.wp hO fun v w' hpost => ?_)
      exact ih _ _ _ (hinv.step hgood ho hpre' hpost.1 hpost.2) hcount
    · rename_i hw
      rw [if_neg hw] at hO
      exact ih _ _ _ (hinv.step hgood ho hpre' hO.1.symm hO.2) hcount

def OwesAll (P : Program) (ops : Array Oper) (x : Nat → Value) (w0 : World) (st : List (Nat × (World → Prop))) (a0 : Act) : Nat → List Oper → Prop
  | _, [] => True
  | k, o :: r => Owes P ops x w0 st a0 k o ∧ OwesAll P ops x w0 st a0 (k + 1) r
theorem OwesAll.get : ∀ (l : List Oper) (k : Nat), OwesAll P ops x w0 st a0 k l → ∀ i o, l[i]? = some o → Owes P ops x w0 st a0 (k + i) o
  | [], _, _, i, o, h => by simp at h
  | y :: r, k, h, 0, o, ho => by
    simp only [List.getElem?_cons_zero, Option.some.injEq] at ho
    subst ho
    exact h.1
  | y :: r, k, h, i + 1, o, ho => by
    have := OwesAll.get r (k + 1) h.2 i o (by simpa using ho)
    rw [show k + (i + 1) = k + 1 + i from by omega]
    exact this

theorem stage_none : ∀ (st : List (Nat × (World → Prop))) (L : Nat → Bool) (w : World), (∀ j, L j = false) → w = w0 → stageW w0 st L w
  | [], _, _, _, h => h
  | (i, R) :: r, L, w, hL, h => by
    unfold stageW
    rw [if_neg (by rw [hL]; decide)]
    exact stage_none r L w hL h

/-- The region: the values, and the operations that turn the world (the last first), each with what holds behind it. -/
theorem region_lit (x : Nat → Value) {id : Nat} {a0 : Act} {w : World} (st : List (Nat × (World → Prop))) {l : List Oper} (hm : P.follows .mixedOrders = true) (hgood : good l.toArray (fun _ => []) = true)
    (hfits : (l.all fun o => match o.dst with | some d => decide (d < a0.tmps.size) | none => true) = true)
    (howe : OwesAll P l.toArray x w.drew st a0 0 l)
    (hfin : ∀ L w', (∀ i, decide (i < l.length) = true → L i = true) → stageW w.drew st L w' → Q .normal (putAll l 0 a0 x) w') : (Code.region id l.toArray true).wp P Q a0 w := by
  refine wp_region_any hm ?_
  refine sound (x := x) (w0 := w.drew) (st := st) (a0 := a0) hgood ?_ (fun i o ho => ?_) (fun L w' hL h => hfin L w' (fun i hi => hL i (by simpa using hi)) h) l.toArray.size _ a0 w.drew ?_ ?_
  · intro j oj d hoj hd
    have h1 : oj ∈ l := by simpa using Array.mem_of_getElem? hoj
    have := List.all_eq_true.1 hfits oj h1
    simpa [hd] using this
  · have := OwesAll.get l 0 howe i o (by simpa using ho)
    simpa using this
  · have hfalse : ∀ j, (Array.replicate l.toArray.size false).getD j false = false := by
      intro j
      simp only [Array.getD_eq_getD_getElem?, Array.getElem?_replicate]
      split <;> rfl
    refine ⟨by simp, ?_, fun k o _ hk => ?_, stage_none _ _ _ hfalse rfl⟩
    · obtain ⟨tm, df⟩ := a0
      simp only [Act.mk.injEq, and_true]
      apply Array.ext_getElem?
      intro t
      simp only [frame, Array.getElem?_mapIdx, hfalse]
      cases tm[t]? with
      | none => rfl
      | some y => cases hj : writer l.toArray t <;> simp
    · rw [hfalse] at hk; cases hk
  · exact Nat.le_trans Array.count_le_size (by simp)

variable {i : Nat} {o : Oper} {ρ : Operand → Value} {L : Nat → Bool} {w : World}
theorem Sees.old' (h : Sees ops x w0 st a0 i o ρ L w) (t : Tmp) (hc : ((o.looksAt ops).contains t && oldAt ops i t) = true) : ρ (.tmp t) = a0.tmps.getD t undef := by
  simp only [Bool.and_eq_true, List.contains_iff_mem, oldAt] at hc
  cases hw : writer ops t with
  | none => exact h.old t hc.1 hw
  | some j =>
    have h2 := hc.2
    rw [hw] at h2
    exact h.prior t j hc.1 hw h2
theorem Sees.new' (h : Sees ops x w0 st a0 i o ρ L w) (t : Tmp) (j : Nat) (hc : ((o.looksAt ops).contains t && (writer ops t == some j && !late ops i j)) = true) : ρ (.tmp t) = x j := by
  simp only [Bool.and_eq_true, List.contains_iff_mem, beq_iff_eq, Bool.not_eq_true'] at hc
  exact h.new t j hc.1 hc.2.1 hc.2.2
/-- An operation that waits for this one was not carried out yet. -/
theorem Sees.before (h : Sees ops x w0 st a0 i o ρ L w) (k : Nat) (hc : late ops i k = true) : L k = false := by
  cases hk : L k with
  | false => rfl
  | true =>
    exfalso
    unfold late at hc
    cases hoj : ops[k]? with
    | none => rw [hoj] at hc; cases hc
    | some ok =>
      rw [hoj] at hc
      obtain ⟨e', he', hb', hon⟩ := edge_spec hc
      have := h.closed k ok hoj hk e' he' hb'
      rw [hon, h.me] at this
      cases this
/-- .. nor is one that waits for one that waits for this one. -/
theorem Sees.before2 (h : Sees ops x w0 st a0 i o ρ L w) (k j : Nat) (hc : (late ops i k && late ops k j) = true) : L j = false := by
  simp only [Bool.and_eq_true] at hc
  cases hk : L j with
  | false => rfl
  | true =>
    exfalso
    have h2 := hc.2
    unfold late at h2
    cases hoj : ops[j]? with
    | none => rw [hoj] at h2; cases h2
    | some ok =>
      rw [hoj] at h2
      obtain ⟨e', he', hb', hon⟩ := edge_spec h2
      have := h.closed j ok hoj hk e' he' hb'
      rw [hon, h.before k hc.1] at this
      cases this
/-- An operation that this one waits for was carried out. -/
theorem Sees.behind (h : Sees ops x w0 st a0 i o ρ L w) (k : Nat) (hc : edge o k = true) : L k = true := by
  obtain ⟨e, he, hb, hon⟩ := edge_spec hc
  exact hon ▸ h.done e he hb

/-- An operation that leaves the world as it is. -/
theorem owes_pure (hg : o.guard = none) (hc : (st.all fun p => !decide (p.1 = i)) = true)
    (h : ∀ ρ L w, Sees ops x w0 st a0 i o ρ L w → (∀ c, ρ (.const c) = c) → OpOk P o ρ w (fun v w' => v = x i ∧ w' = w)) : Owes P ops x w0 st a0 i o := by
  intro ρ L w hs
  have hw : wantR ops ρ o = true := by unfold wantR; rw [hg]
  rw [if_pos hw]
  have h1 := h ρ L w hs hs.const
  unfold OpOk at *
  generalize (execOp ρ o).run P w = r at *
  have hp : ∀ v w', v = x i ∧ w' = w → v = x i ∧ stageW w0 st (add L i) w' := fun v w' hh => ⟨hh.1, by rw [hh.2]; exact stage_add hc hs.world⟩
  cases r with
  | ok n w' =>
    cases n <;> simp only at h1 ⊢
    case value v => exact hp _ _ h1
    case skip => exact hp _ _ h1
    case enter f args => exact h1.mono fun e w'' ⟨v, he, hv⟩ => ⟨v, he, hp _ _ hv⟩
  | halt y w' => exact h1
/-- .. that turns it: pre the later ones. -/
theorem owes_turn {pre r : List (Nat × (World → Prop))} {R : World → Prop} (hg : o.guard = none) (hst : st = pre ++ (i, R) :: r) (hpre : (pre.all fun p => late ops i p.1 && !decide (p.1 = i)) = true)
    (h : ∀ ρ L w, Sees ops x w0 st a0 i o ρ L w → (∀ c, ρ (.const c) = c) → stageW w0 r L w → OpOk P o ρ w (fun v w' => v = x i ∧ R w')) : Owes P ops x w0 st a0 i o := by
  intro ρ L w hs
  have hw : wantR ops ρ o = true := by unfold wantR; rw [hg]
  rw [if_pos hw]
  have hfront : ∀ (L' : Nat → Bool) (w' : World) (q : List (Nat × (World → Prop))), (q.all fun p => late ops i p.1 && !decide (p.1 = i)) = true → (∀ p ∈ q, L' p.1 = false) → (stageW w0 (q ++ (i, R) :: r) L' w' ↔ stageW w0 ((i, R) :: r) L' w') := by
    intro L' w' q
    induction q with
    | nil => intro _ _; exact Iff.rfl
    | cons p q ih =>
      intro hq hL
      simp only [List.all_cons, Bool.and_eq_true] at hq
      obtain ⟨k, S⟩ := p
      have hk := hL (k, S) List.mem_cons_self
      show (if L' k = true then S w' else _) ↔ _
      rw [if_neg (by rw [hk]; decide)]
      exact ih hq.2 fun p hp => hL p (List.mem_cons_of_mem _ hp)
  have hLp : ∀ p ∈ pre, L p.1 = false := fun p hp => by
    have := List.all_eq_true.1 hpre p hp
    simp only [Bool.and_eq_true] at this
    exact hs.before p.1 this.1
  have hLa : ∀ p ∈ pre, add L i p.1 = false := fun p hp => by
    have := List.all_eq_true.1 hpre p hp
    simp only [Bool.and_eq_true, Bool.not_eq_true', decide_eq_false_iff_not] at this
    exact (if_neg this.2).trans (hLp p hp)
  have hin : stageW w0 r L w := by
    have h1 := hs.world
    rw [hst] at h1
    have h2 := (hfront L w pre hpre hLp).1 h1
    unfold stageW at h2
    rwa [if_neg (by rw [hs.me]; decide)] at h2
  have h1 := h ρ L w hs hs.const hin
  have hp : ∀ v w', v = x i ∧ R w' → v = x i ∧ stageW w0 st (add L i) w' := fun v w' hh => ⟨hh.1, by
    rw [hst]
    refine (hfront (add L i) w' pre hpre hLa).2 ?_
    unfold stageW
    rw [if_pos (show add L i i = true from if_pos rfl)]
    exact hh.2⟩
  unfold OpOk at *
  generalize (execOp ρ o).run P w = q at *
  cases q with
  | ok n w' =>
    cases n <;> simp only at h1 ⊢
    case value v => exact hp _ _ h1
    case skip => exact hp _ _ h1
    case enter f args => exact h1.mono fun e w'' ⟨v, he, hv⟩ => ⟨v, he, hp _ _ hv⟩
  | halt y w' => exact h1
theorem stage_not {R : World → Prop} {r : List (Nat × (World → Prop))} (h : stageW w0 ((i, R) :: r) L w) (hL : L i = false) : stageW w0 r L w := by
  unfold stageW at h
  rwa [if_neg (by rw [hL]; decide)] at h
theorem stage_head {R : World → Prop} {r : List (Nat × (World → Prop))} (h : stageW w0 ((i, R) :: r) L w) (hL : L i = true) : R w := by
  unfold stageW at h
  rwa [if_pos hL] at h
theorem stage_one {R : World → Prop} {C : World → Prop} (h : stageW w0 [(i, R)] L w) (h0 : C w0) (hR : ∀ v, R v → C v) : C w := by
  unfold stageW at h
  split at h
  · exact hR _ h
  · have e : w = w0 := h
    rw [e]; exact h0
theorem ok_store_row {t : TypeId} {p v : Operand} {pos : String} {after : Array Edge} {ty : TypeId} {g : Nat} {cells old : Array Value} {T : TypeId} {R : Value → World → Prop}
    (hx : ρ p = .pointer (some ⟨g, 0, none⟩)) (hy : ρ v = .agg cells) (hg : w.heap[g]? = some (.cells old T (0, 0))) (hi : (P.info? ty).map (·.size) = some cells.size) (hold : old.size = cells.size) (h1 : cells.all (·.oneCell') = true)
    (h : R undef (w.setRow g cells)) : OpOk P ⟨none, .store ty p v, t, pos, after, none⟩ ρ w R := by
  have hr : (execOp ρ ⟨none, .store ty p v, t, pos, after, none⟩).run P w = .ok .skip (w.setRow g cells) := by
    simp only [execOp, hx, hy, Instr.storeAt, Instr.sureAddr, Sem.run_bind, Sem.run_pure, Result.andThen_ok, run_storeVar_row w g T ty old cells hg hi hold h1]
  unfold OpOk
  rw [hr]
  exact h
end
end Go.Proofs.YtgnfdplphpejaaaDoor.Stg
namespace Go.Proofs.YtgnfdplphpejaaaDoor.Stg
open Go Go.RowKit _root_.Go.Proofs.YtgnfdplphpejaaaDoor.Any
set_option maxRecDepth 100000
section
variable {P : Program} {ops : Array Oper} {x : Nat → Value} {w0 : World} {st : List (Nat × (World → Prop))} {a0 : Act} {i : Nat} {o : Oper} {ρ : Operand → Value} {L : Nat → Bool} {w : World}
theorem Sees.closedR (h : Sees ops x w0 st a0 i o ρ L w) : ∀ (n k j : Nat), Ord.reach ops n k j = true → L k = true → L j = true
  | 0, k, j, hr, hk => by
    obtain rfl : k = j := by simpa [Ord.reach] using hr
    exact hk
  | n + 1, k, j, hr, hk => by
    rw [Ord.reach, Bool.or_eq_true] at hr
    rcases hr with hr | hr
    · obtain rfl : k = j := by simpa using hr
      exact hk
    · cases hok : ops[k]? with
      | none => rw [hok] at hr; cases hr
      | some ok =>
        rw [hok] at hr
        simp only [Array.any_eq_true, Bool.and_eq_true] at hr
        obtain ⟨m, hm, h1, h2⟩ := hr
        exact Sees.closedR h n _ j h2 (h.closed k ok hok hk _ (Array.getElem_mem hm) h1)
/-- An operation that waits for this one, over edges, was not carried out. -/
theorem Sees.beforeR (h : Sees ops x w0 st a0 i o ρ L w) (k : Nat) (hc : Ord.reach ops ops.size k i = true) : L k = false := by
  cases hk : L k with
  | false => rfl
  | true =>
    have := h.closedR _ _ _ hc hk
    rw [h.me] at this
    cases this
/-- An operation that this one waits for, over edges, was carried out. -/
theorem Sees.behindR (h : Sees ops x w0 st a0 i o ρ L w) (k j : Nat) (hc : (edge o k && Ord.reach ops ops.size k j) = true) : L j = true := by
  rw [Bool.and_eq_true] at hc
  exact h.closedR _ _ _ hc.2 (h.behind k hc.1)
end
end Go.Proofs.YtgnfdplphpejaaaDoor.Stg
namespace Go.Proofs.YtgnfdplphpejaaaDoor.Sc
open Go Go.RowKit Go.ChangeShapes Go.WideShapes Go.ChangeAt
set_option maxRecDepth 100000
def FilR (w0 : World) (bb off : Nat) (cur : Array Value) (lv : Value) (Lq : List Lt) (g : ByteArray) (n : Nat) (V : World) : Prop := FilP w0 bb off cur lv Lq g n (.returned (.int .i64 n)) V
def AddP (w : World) (B : Nat) (q : Int × List Bx) (e : Ending) (w' : World) : Prop :=
  Below B w w' ∧ ((¬ q.1 = 0 ∧ e = .returned (.tuple #[.slice none 0 0, .int .i64 q.1])) ∨ (q.1 = 0 ∧ ∃ v R, e = .returned (.tuple #[v, .int .i64 0]) ∧ BsAt w' v R B ∧ R.map Bv.b = q.2))
theorem fillB_next {t : List Gd} {g : ByteArray} {bs : List Bx} {c : Int} {k : Nat} (hk : k < bs.length) : fillB t g (bs.drop k) c =
    ((if 0 < fillN t bs[k].kind bs[k].lots g c then { bs[k] with lots := bs[k].lots ++ [⟨g, (fillN t bs[k].kind bs[k].lots g c : Int)⟩] } else bs[k]) :: (fillB t g (bs.drop (k + 1)) (c - fillN t bs[k].kind bs[k].lots g c)).1, (fillB t g (bs.drop (k + 1)) (c - fillN t bs[k].kind bs[k].lots g c)).2) := by
  rw [List.drop_eq_getElem_cons hk]
  rfl
/-- Where the first loop stands. -/
structure In1 (t : List Gd) (g : ByteArray) (c0 : Int) (bs : List Bx) (w wr : World) (v : Value) (b5 B k : Nat) (R : List Bv) (c : Int) : Prop where
  at' : BsAt wr v R B
  len : R.length = bs.length
  box : wr.heap[b5]? = some (.cells #[.string g, .int .i64 c] 35 (0, 0))
  lo : 0 ≤ c
  hi : c ≤ c0
  done : fillB t g bs c0 = ((R.take k).map Bv.b ++ (fillB t g (bs.drop k) c).1, (fillB t g (bs.drop k) c).2)
  rest : (R.drop k).map Bv.b = bs.drop k
  off : ∀ x ∈ R, x.v.ownBlock ≠ some b5
  below : Below B w wr
theorem keep_undrew {F : Nat → Prop} {w w' : World} (h : Keep F w.drew w') : Keep F w w' := h.undrew
theorem in1_step {t : List Gd} {g : ByteArray} {c0 c : Int} {bs : List Bx} {w wr V : World} {b5 B k bb cap : Nat} {R : List Bv} {cur : Array Value} (h : In1 t g c0 bs w wr (.slice (some ⟨bb, 0, none⟩) R.length cap) b5 B k R c) (hk : k < R.length)
    (hcur : wr.heap[bb]? = some (.cells cur 33 (0, 0))) {n : Nat} (hn : n = fillN t R[k].b.kind R[k].b.lots g c) (hf : FilR wr.drew bb (k * 3) cur R[k].v R[k].b.lots g n V) (hB5 : B ≤ b5) :
    ∃ R', R'.length = R.length ∧ In1 t g c0 bs w (V.setCell ⟨b5, 1, none⟩ (.int .i64 (c - n))) (.slice (some ⟨bb, 0, none⟩) R.length cap) b5 B (k + 1) R' (c - n) := by
  have hkb : k < bs.length := by rw [← h.len]; exact hk
  have hbk : R[k].b = bs[k] := by
    have h1 := h.rest
    rw [List.drop_eq_getElem_cons hk, List.drop_eq_getElem_cons hkb, List.map_cons] at h1
    exact (List.cons.inj h1).1
  have hrest : (R.drop (k + 1)).map Bv.b = bs.drop (k + 1) := by
    have h1 := h.rest
    rw [List.drop_eq_getElem_cons hk, List.drop_eq_getElem_cons hkb, List.map_cons] at h1
    exact (List.cons.inj h1).2
  have hnx := fillB_next (t := t) (g := g) (c := c) hkb
  rw [← hbk, ← hn] at hnx
  have hnc : n ≤ c.toNat := by rw [hn]; exact fillN_le _ _ _ _ _
  have hlo := h.lo
  have hblt : ∀ j, Blks (.slice (some ⟨bb, 0, none⟩) R.length cap) R j → B ≤ j ∧ j < wr.heap.size := fun j hj => h.at'.blks_lt hj
  have hb5 : b5 ≠ bb := fun e => by
    have h1 := h.box
    rw [e, hcur] at h1
    simp only [Option.some.injEq, Obj.cells.injEq] at h1
    exact absurd h1.2.1 (by decide)
  have h5lt := lt_blk h.box
  have atw : BsAt wr.drew (.slice (some ⟨bb, 0, none⟩) R.length cap) R B := h.at'.same fun _ _ => rfl
  -- what holds ahead of the store
  have mid : ∃ R', R'.length = R.length ∧ BsAt V (.slice (some ⟨bb, 0, none⟩) R.length cap) R' B ∧ V.heap[b5]? = wr.heap[b5]? ∧ (∀ x ∈ R', x.v.ownBlock ≠ some b5) ∧ Below B wr V ∧ (R'.take (k + 1)).map Bv.b = (R.take k).map Bv.b ++ [if 0 < n then { R[k].b with lots := R[k].b.lots ++ [⟨g, (n : Int)⟩] } else R[k].b] ∧ R'.drop (k + 1) = R.drop (k + 1) ∧ wr.heap.size ≤ V.heap.size := by
    have htk : (R.take (k + 1)).map Bv.b = (R.take k).map Bv.b ++ [R[k].b] := by rw [List.take_succ_eq_append_getElem hk, List.map_append]; rfl
    have hBw : B ≤ wr.heap.size := Nat.le_of_lt (Nat.lt_of_le_of_lt hB5 h5lt)
    rcases hf.2 with ⟨h0, hb⟩ | ⟨h0, v', hr, hh, ho, hkp⟩
    · have hb' := below_undrew hb
      refine ⟨R, rfl, atw.below hb, hb'.block b5 h5lt, h.off, hb'.mono hBw, ?_, rfl, hb'.size⟩
      rw [if_neg (by omega)]
      exact htk
    · have hkp' := keep_undrew hkp
      have hlv := hblt
      refine ⟨R.set k ⟨{ R[k].b with lots := R[k].b.lots ++ [⟨g, (n : Int)⟩] }, v'⟩, List.length_set .., ?_, ?_, ?_, ?_, ?_, ?_, hkp'.size⟩
      · exact atw.fill hk hcur hr (by simp) hh ho hBw hkp
      · exact hkp'.block b5 h5lt fun e => e.elim hb5 (h.off _ (List.getElem_mem hk))
      · intro x hx
        obtain ⟨i, hi, rfl⟩ := List.getElem_of_mem hx
        rw [List.length_set] at hi
        by_cases e : k = i
        · subst e
          rw [List.getElem_set_self]
          intro e5
          rcases ho b5 e5 with h1 | h1
          · exact h.off _ (List.getElem_mem hk) h1
          · exact absurd h1 (Nat.not_le.2 h5lt)
        · rw [List.getElem_set_ne e]
          exact h.off _ (List.getElem_mem hi)
      · refine hkp'.below hBw fun j hj e => ?_
        rcases e with rfl | e
        · have := (hblt j (.inl rfl)).1; omega
        · have := (hblt j (.inr ⟨_, List.getElem_mem hk, e⟩)).1; omega
      · have hks : k < (R.set k ⟨{ R[k].b with lots := R[k].b.lots ++ [⟨g, (n : Int)⟩] }, v'⟩).length := by rw [List.length_set]; exact hk
        rw [if_pos h0, List.take_succ_eq_append_getElem hks, List.getElem_set_self, List.take_set, List.set_eq_of_length_le (by rw [List.length_take]; omega), List.map_append]
        rfl
      · rw [List.drop_set_of_lt (by omega)]
  obtain ⟨R', hl, hat, hbx, hoff, hbel, htk, hdr, hsz⟩ := mid
  have hbx2 : V.heap[b5]? = some (.cells #[.string g, .int .i64 c] 35 (0, 0)) := hbx.trans h.box
  have hsame : ∀ j, j ≠ b5 → (V.setCell ⟨b5, 1, none⟩ (.int .i64 (c - n))).heap[j]? = V.heap[j]? := fun j hj => Below.heap_setCell V _ _ j (fun e => hj e)
  refine ⟨R', hl, ⟨hat.same fun j hj => hsame j fun e => ?_, hl.trans h.len, by simp [World.setCell, Array.getElem?_modify, hbx2], by omega, by have := h.hi; omega, ?_, ?_, hoff, ?_⟩⟩
  · subst e
    rcases hj with hj | ⟨x, hx, hj⟩
    · exact hb5 (Option.some.inj hj).symm
    · exact hoff x hx hj
  · rw [h.done, hnx, htk]
    simp
  · rw [hdr, hrest]
  · exact (h.below.trans hbel).trans ⟨rfl, rfl, rfl, by simp [World.setCell], fun j hj => hsame j (by omega)⟩
/-- Where the second loop stands. -/
structure In2 (t : List Gd) (g : ByteArray) (c0 : Int) (res : Int × List Bx) (w wr : World) (v : Value) (b5 B f : Nat) (Q : List Bv) (c : Int) : Prop where
  at' : BsAt wr v Q B
  fuel : f + Q.length = 65
  len : Q.length ≤ 64
  box : wr.heap[b5]? = some (.cells #[.string g, .int .i64 c] 35 (0, 0))
  lo : 0 ≤ c
  hi : c ≤ c0
  done : res = newB t g f (Q.map Bv.b) c
  off : ∀ x ∈ Q, x.v.ownBlock ≠ some b5
  below : Below B w wr
theorem in2_start {t : List Gd} {g : ByteArray} {c0 c : Int} {bs : List Bx} {w wr : World} {v : Value} {b5 B k : Nat} {R : List Bv} (h : In1 t g c0 bs w wr v b5 B k R c) (hk : R.length ≤ k) (hl : R.length ≤ 64) : In2 t g c0 (addB t ⟨g, c0⟩ bs) w wr v b5 B (65 - R.length) R c := by
  refine ⟨h.at', by omega, hl, h.box, h.lo, h.hi, ?_, h.off, h.below⟩
  have h1 := h.done
  rw [List.take_of_length_le hk, List.drop_of_length_le (by rw [← h.len]; exact hk)] at h1
  simp only [fillB, List.append_nil] at h1
  rw [addB, h1, ← h.len]
/-- A new box was filled, and the count told. -/
theorem in2_mid {t : List Gd} {g : ByteArray} {c0 c kd : Int} {res : Int × List Bx} {w wr w6 V : World} {v : Value} {b5 b11 B f : Nat} {Q : List Bv} (h : In2 t g c0 res w wr v b5 B f Q c) (h6 : Below wr.heap.size wr w6) (hb11 : wr.heap.size ≤ b11)
    {n : Nat} (hn : 1 ≤ n) (hf : FilR w6.drew b11 0 #[.string ⟨#[]⟩, .int .i64 kd, .slice none 0 0] (.slice none 0 0) [] g n V) (hB5 : B ≤ b5) :
    ∃ a1 c1, (V.setCell ⟨b5, 1, none⟩ (.int .i64 (c - n))).heap[b11]? = some (.cells #[.string ⟨#[]⟩, .int .i64 kd, .slice a1 1 c1] 33 (0, 0)) ∧ BsAt (V.setCell ⟨b5, 1, none⟩ (.int .i64 (c - n))) v Q B ∧
      (V.setCell ⟨b5, 1, none⟩ (.int .i64 (c - n))).ownsRow B 35 2 (.slice a1 1 c1) 1 (ltCells [⟨g, n⟩]) ∧ (∀ y ∈ Q, ∀ k, y.v.ownBlock = some k → (Value.slice a1 1 c1).ownBlock ≠ some k) ∧ (Value.slice a1 1 c1).ownBlock ≠ some b5 ∧
      (V.setCell ⟨b5, 1, none⟩ (.int .i64 (c - n))).heap[b5]? = some (.cells #[.string g, .int .i64 (c - n)] 35 (0, 0)) ∧ Below B w (V.setCell ⟨b5, 1, none⟩ (.int .i64 (c - n))) := by
  have h5lt := lt_blk h.box
  have hBw : B ≤ wr.heap.size := Nat.le_of_lt (Nat.lt_of_le_of_lt hB5 h5lt)
  rcases hf.2 with ⟨h0, _⟩ | ⟨_, v', hr, hh, ho, hkp⟩
  · omega
  have hkp' := keep_undrew hkp
  obtain ⟨a1, c1, rfl⟩ : ∃ a c, v' = .slice a 1 c := Ord.row_slice hr
  have hnone : ∀ k, ¬ (Value.slice none 0 0).ownBlock = some k := fun k e => by cases e
  have hF : ∀ k, k < wr.heap.size → ¬ (k = b11 ∨ (Value.slice none 0 0).ownBlock = some k) := fun k hk e => e.elim (fun e => by omega) (hnone k)
  have hnew : ∀ b, (Value.slice a1 1 c1).ownBlock = some b → wr.heap.size ≤ b := fun b hb => (ho b hb).elim (fun e => absurd e (hnone b)) (fun e => Nat.le_trans h6.size e)
  have hV : Below wr.heap.size wr V := h6.trans ⟨hkp'.os, hkp'.tape, hkp'.output, hkp'.size, fun k hk => hkp'.block k (Nat.lt_of_lt_of_le hk h6.size) (hF k hk)⟩
  have hb5 : b5 ≠ b11 := by omega
  have hbx : V.heap[b5]? = some (.cells #[.string g, .int .i64 c] 35 (0, 0)) := (hV.block b5 h5lt).trans h.box
  have hsame : ∀ j, j ≠ b5 → (V.setCell ⟨b5, 1, none⟩ (.int .i64 (c - n))).heap[j]? = V.heap[j]? := fun j hj => Below.heap_setCell V _ _ j (fun e => hj e)
  refine ⟨a1, c1, (hsame b11 (fun e => hb5 e.symm)).trans hh, (h.at'.below hV).same fun j hj => hsame j fun e => ?_, ?_, fun y hy k hk e => ?_, fun e => ?_, by simp [World.setCell, Array.getElem?_modify, hbx], ?_⟩
  · subst e
    rcases hj with hj | ⟨x, hx', hj⟩
    · exact own_ne (h.at'.below hV).own (show V.ownsRow 0 35 2 (.slice (some ⟨j, 0, none⟩) 1 1) 1 [.string g, .int .i64 c] from ⟨rfl, .inr ⟨j, 1, _, rfl, Nat.zero_le _, hbx, Nat.le_refl _, by decide, rfl, rfl⟩⟩) (by decide) j hj rfl
    · exact h.off x hx' hj
  · refine Any.ownsRow_same (own_base (by simpa using hr) fun k hk => Nat.le_trans hBw (hnew k hk)) fun k hk => hsame k fun e => ?_
    subst e
    exact absurd (hnew _ hk) (Nat.not_le.2 h5lt)
  · have h1 := ((h.at'.lots y hy).lt k hk).2
    have h2 := hnew k e
    omega
  · exact absurd (hnew _ e) (Nat.not_le.2 h5lt)
  · exact (h.below.trans (hV.mono hBw)).trans ⟨rfl, rfl, rfl, by simp [World.setCell], fun j hj => hsame j (by omega)⟩
theorem in2_next {t : List Gd} {g : ByteArray} {c0 c kd : Int} {res : Int × List Bx} {w wr V W : World} {v v2 : Value} {b5 B f n : Nat} {Q : List Bv} {a1 : Option Addr} {c1 : Nat} (h : In2 t g c0 res w wr v b5 B f Q c) (hc : ¬ c ≤ 0) (hk : freshK t g c = some kd) (h64 : ¬ 64 ≤ Q.length) (hn : n = fillN t kd [] g c)
    (hat : BsAt V v Q B) (hx : V.ownsRow B 35 2 (.slice a1 1 c1) 1 (ltCells [⟨g, n⟩])) (hap : ∀ y ∈ Q, ∀ k, y.v.ownBlock = some k → (Value.slice a1 1 c1).ownBlock ≠ some k) (hoff : (Value.slice a1 1 c1).ownBlock ≠ some b5)
    (hbx : V.heap[b5]? = some (.cells #[.string g, .int .i64 (c - n)] 35 (0, 0))) (hbel : Below B w V) (hB5 : B ≤ b5)
    (ho : W.ownsRow B 33 3 v2 (Q.length + 1) (bvCells Q ++ [.string ⟨#[]⟩, .int .i64 kd, .slice a1 1 c1])) (hg : V.grownBy W v.ownBlock) :
    ∃ f', In2 t g c0 res w W v2 b5 B f' (Q ++ [⟨⟨⟨#[]⟩, kd, [⟨g, n⟩]⟩, .slice a1 1 c1⟩]) (c - n) := by
  obtain ⟨f', rfl⟩ : ∃ f', f = f' + 1 := ⟨f - 1, by have := h.fuel; have := h.len; omega⟩
  have hnc : n ≤ c.toNat := by rw [hn]; exact fillN_le _ _ _ _ _
  have hlo := h.lo
  have h5lt := lt_blk hbx
  have hvb : v.ownBlock ≠ some b5 := fun e => own_ne hat.own (show V.ownsRow 0 35 2 (.slice (some ⟨b5, 0, none⟩) 1 1) 1 [.string g, .int .i64 (c - n)] from ⟨rfl, .inr ⟨b5, 1, _, rfl, Nat.zero_le _, hbx, Nat.le_refl _, by decide, rfl, rfl⟩⟩) (by decide) b5 e rfl
  refine ⟨f', hat.push (x := ⟨⟨⟨#[]⟩, kd, [⟨g, n⟩]⟩, .slice a1 1 c1⟩) hx hap ho hg, ?_, ?_, ?_, by omega, by have := h.hi; omega, ?_, ?_, ?_⟩
  · have := h.fuel
    rw [List.length_append, List.length_singleton]
    omega
  · rw [List.length_append, List.length_singleton]
    omega
  · rw [hg.block b5 h5lt (fun e => hvb e.symm)]
    exact hbx
  · have h1 := h.done
    rw [newB, if_neg hc, hk] at h1
    simp only at h1
    rw [if_neg (by rw [List.length_map]; exact h64), ← hn] at h1
    rw [h1, List.map_append]
    rfl
  · intro x hx'
    rcases List.mem_append.1 hx' with hx' | hx'
    · exact h.off x hx'
    · rw [List.mem_singleton.1 hx']; exact hoff
  · exact hbel.grown hg (by omega) fun k hk => (hat.own.lt k hk).1
end Go.Proofs.YtgnfdplphpejaaaDoor.Sc
namespace Go.Proofs.YtgnfdplphpejaaaDoor.Sc
open Go Go.RowKit Go.ChangeShapes Go.WideShapes Go.ChangeAt
set_option maxRecDepth 100000
theorem below_drew' (B : Nat) (w : World) : Below B w w.drew := ⟨rfl, rfl, rfl, Nat.le_refl _, fun _ _ => rfl⟩
theorem infoBx : (Tryd.prog.info? 33).map (fun i => (i.zero, i.size, i.bytes)) = some (some (.agg #[.string ⟨#[]⟩, .int .i64 0, .slice none 0 0]), 3, 48) := by kernel_rfl
set_option maxHeartbeats 2000000 in
theorem add_any (t : List Gd) (g : ByteArray) (c : Int) (bt bm : Nat) (v : Value) (R : List Bv) (B M : Nat) (w : World) (hap : ∀ V, Below B w V → ApT V) (htab : ∀ V, Below B w V → Tab V bt bm t) (hn : (codes t).Nodup) (hok : ∀ g ∈ t, gdOk g = true)
    (hb : BsAt w v R B) (hB : B ≤ w.heap.size) (hc0 : 0 ≤ c) (hc : c ≤ 1099511627776) (hlen : R.length ≤ 64) (hmax : LotsMax M (R.map Bv.b)) (hM : M ≤ 1000) :
    Calls Tryd.prog 21 #[.pointer (some ⟨bt, 0, none⟩), v, .agg #[.string g, .int .i64 c]] w (AddP w B (addB t ⟨g, c⟩ (R.map Bv.b))) := by
  obtain ⟨av, cv, rfl⟩ : ∃ a c, v = .slice a R.length c := by
    obtain ⟨a, c, h⟩ := Ord.row_slice hb.own
    exact ⟨a, c, h⟩
  obtain ⟨bs, hbs⟩ : ∃ bs, bs = R.map Bv.b := ⟨_, rfl⟩
  rw [← hbs] at hmax ⊢
  have hbl : bs.length = R.length := by rw [hbs, List.length_map]
  have HAP := Lib.hid hap
  have HTB := Lib.hid htab
  have HOK := Lib.hid hok
  have HMX := Lib.hid hmax
  have HBL := Lib.hid hbl
  have hB5 := hB
  obtain ⟨w1, hw1⟩ : ∃ w1, w1 = w.alloc (.cells #[.string g, .int .i64 c] 35) := ⟨_, rfl⟩
  obtain ⟨b5, hb5⟩ : ∃ b, b = w.heap.size := ⟨_, rfl⟩
  have hbel1 : Below B w w1 := by rw [hw1]; exact (one_below w _).mono hB
  have HI0 : Hid (In1 t g c bs w w1 (.slice av R.length cv) b5 B 0 R c) := Lib.hid ⟨hb.below (by rw [hw1]; exact one_below w _), hbl.symm, by rw [hw1, hb5]; exact heap_alloc_new w _, hc0, Int.le_refl _, by simp, by simp [hbs], fun x hx e => by
    have := (hb.lots x hx).lt b5 e
    omega, hbel1⟩
  have HB5 : Hid (B ≤ b5) := Lib.hid (by omega)
  have HC := Lib.hid hc
  clear hap htab hok hmax hb hc hbel1 hbs hbl hB5
  go_enter Tryd.func21, Tryd.ntmps21
  go_wp2_with fail
  rw [← hw1, ← hb5]
  clear hw1 hb5
  go_loopw [8, 14] (fun _ i wr => ∃ (k : Nat) (Q : List Bv) (c' : Int), k ≤ R.length ∧ i = .int .i64 k ∧ Q.length = R.length ∧ In1 t g c bs w wr (.slice av R.length cv) b5 B k Q c') (fun _ i _ => R.length - (intOf i).toNat)
  case atStart => exact ⟨0, R, c, Nat.zero_le _, rfl, rfl, HI0.out⟩
  case round =>
    obtain ⟨k, Q, c', hk, rfl, hql, hin⟩ := hrel
    by_cases hlt : k < R.length
    · have hkq : k < Q.length := by omega
      obtain ⟨bb, cap, cur, hv, hcur, h3, h4, e0, e1, e2⟩ := hin.at'.at hkq
      rw [hql] at hv
      obtain ⟨rfl, rfl⟩ : av = some ⟨bb, 0, none⟩ ∧ cv = cap := by
        simp only [Value.slice.injEq, true_and] at hv
        exact hv
      have HIN := Lib.hid hin
      have hbel := hin.below
      have hlots := hin.at'.lots _ (List.getElem_mem hkq)
      have hkb : k < bs.length := by rw [HBL.out]; exact hlt
      have hbk : Q[k].b = bs[k] := by
        have h1 := hin.rest
        rw [List.drop_eq_getElem_cons hkq, List.drop_eq_getElem_cons hkb, List.map_cons] at h1
        exact (List.cons.inj h1).1
      have hmk : Q[k].b.lots.length ≤ M := by rw [hbk]; exact HMX.out _ (List.getElem_mem _)
      have hhi := hin.hi
      have hlo := hin.lo
      have hbox := hin.box
      obtain ⟨n, hnn⟩ : ∃ n, n = fillN t Q[k].b.kind Q[k].b.lots g c' := ⟨_, rfl⟩
      have hdw : Below B w wr.drew := hbel.trans (below_drew' _ _)
      obtain ⟨lv, Lq, HFI, HST, HCB⟩ : ∃ (lv : Value) (Lq : List Lt), Hid (Calls Tryd.prog 43 #[.pointer (some ⟨bt, 0, none⟩), .pointer (some ⟨bb, k * 3, none⟩), .agg #[.string g, .int .i64 c']] wr.drew (FilP wr.drew bb (k * 3) cur lv Lq g n)) ∧
          Hid (∀ V, FilR wr.drew bb (k * 3) cur lv Lq g n V → ∃ Q', Q'.length = R.length ∧ In1 t g c bs w (V.setCell ⟨b5, 1, none⟩ (.int .i64 (c' - n))) (.slice (some ⟨bb, 0, none⟩) R.length cv) b5 B (k + 1) Q' (c' - n)) ∧
          Hid (∀ V, (V = wr.drew ∨ FilR wr.drew bb (k * 3) cur lv Lq g n V) → V.heap[b5]? = some (.cells #[.string g, .int .i64 c'] 35 (0, 0))) := by
        refine ⟨Q[k].v, Q[k].b.lots, Lib.hid ?_, Lib.hid fun V hV => ?_, Lib.hid fun V hV => ?_⟩
        · have := fill_any t Q[k].b.mark g Q[k].b.kind c' Q[k].b.lots bt bm bb (k * 3) cur Q[k].v wr.drew (HAP.out _ hdw) (ownsRow_base (show wr.drew.ownsRow B 35 2 Q[k].v Q[k].b.lots.length (ltCells Q[k].b.lots) from hlots) (Nat.zero_le _)) (by omega) (HTB.out _ hdw) hn HOK.out hcur e0 e1 e2 (by have := HC.out; omega)
          rwa [← hnn] at this
        · obtain ⟨Q', h1, h2⟩ := in1_step (show In1 t g c bs w wr (.slice (some ⟨bb, 0, none⟩) Q.length cv) b5 B k Q c' by rw [hql]; exact hin) hkq hcur hnn hV HB5.out
          rw [hql] at h1 h2
          exact ⟨Q', h1, h2⟩
        · rcases hV with rfl | hV
          · exact hbox
          · rcases hV.2 with ⟨_, hb⟩ | ⟨_, v', _, _, _, hkp⟩
            · exact (hb.block b5 (lt_blk hbox)).trans hbox
            · refine (hkp.block b5 (lt_blk hbox) fun e => ?_).trans hbox
              rcases e with e | e
              · subst e
                rw [hcur] at hbox
                simp only [Option.some.injEq, Obj.cells.injEq] at hbox
                exact absurd hbox.2.1 (by decide)
              · exact hin.off _ (List.getElem_mem hkq) e
      have HCN : Hid ((n : Int) ≤ c' ∧ c' ≤ 1099511627776) := Lib.hid (by
        have h1 := fillN_le t Q[k].b.kind Q[k].b.lots g c'
        rw [← hnn] at h1
        have := HC.out
        omega)
      have x5 := hbox
      have hn8 : R.length ≤ 64 := hlen
      have tk : ((k : Nat) : Int) < (R.length : Int) := by omega
      clear HIN hin hcur h3 h4 e0 e1 e2 hlots hbk hmk hhi hlo hnn hdw hbel hbox hkb hkq hql HI0 x5
      clear Q
      go_wp2_with fail
      refine Stg.region_lit (fun
        | 0 => .pointer (some ⟨b5, 1, none⟩)
        | 1 => .int .i64 c'
        | 2 => .pointer (some ⟨bt, 0, none⟩)
        | 3 => .slice (some ⟨bb, 0, none⟩) R.length cv
        | 4 => .int .i64 (k : Int)
        | 5 => .pointer (some ⟨bb, k * 3, none⟩)
        | 6 => .agg #[.string g, .int .i64 c']
        | 7 => .int .i64 n
        | 8 => .int .i64 (c' - n)
        | 9 => .pointer (some ⟨b5, 1, none⟩)
        | 10 => undef
        | _ => undef) [(10, (fun V => ∃ u, (FilR wr.drew bb (k * 3) cur lv Lq g n) u ∧ V = u.setCell ⟨b5, 1, none⟩ (.int .i64 (c' - n)))), (7, FilR wr.drew bb (k * 3) cur lv Lq g n)] (by kernel_rfl) (by kernel_rfl) (by kernel_rfl) ?_ ?_
      · refine ⟨?_, ?_, ?_, ?_, ?_, ?_, ?_, ?_, ?_, ?_, ?_, trivial⟩
        · refine Stg.owes_pure rfl (by kernel_rfl) fun ρ L wo hs' hc' => ?_
          have h5 : ρ (.tmp 5) = .pointer (some ⟨b5, 0, none⟩) := hs'.old' 5 (by kernel_rfl)
          go_simp
          try exact ⟨rfl, rfl⟩
        · refine Stg.owes_pure rfl (by kernel_rfl) fun ρ L wo hs' hc' => ?_
          have h17 : ρ (.tmp 17) = .pointer (some ⟨b5, 1, none⟩) := hs'.new' 17 0 (by kernel_rfl)
          have hx := HCB.out wo (Stg.stage_one (C := fun V => V = wr.drew ∨ (FilR wr.drew bb (k * 3) cur lv Lq g n) V) (Stg.stage_not hs'.world (hs'.beforeR 10 (by kernel_rfl))) (.inl rfl) (fun v hv => .inr hv))
          have c0 := cell_blk hx 0
          have c1 := cell_blk hx 1
          go_simp
          try exact ⟨rfl, rfl⟩
        · refine Stg.owes_pure rfl (by kernel_rfl) fun ρ L wo hs' hc' => ?_
          have h0 : ρ (.tmp 0) = .pointer (some ⟨bt, 0, none⟩) := hs'.old' 0 (by kernel_rfl)
          exact Any.ok_move ⟨h0, rfl⟩
        · refine Stg.owes_pure rfl (by kernel_rfl) fun ρ L wo hs' hc' => ?_
          have h1 : ρ (.tmp 1) = .slice (some ⟨bb, 0, none⟩) R.length cv := hs'.old' 1 (by kernel_rfl)
          exact Any.ok_move ⟨h1, rfl⟩
        · refine Stg.owes_pure rfl (by kernel_rfl) fun ρ L wo hs' hc' => ?_
          have h8 : ρ (.tmp 8) = .int .i64 (k : Int) := hs'.old' 8 (by kernel_rfl)
          exact Any.ok_move ⟨h8, rfl⟩
        · refine Stg.owes_pure rfl (by kernel_rfl) fun ρ L wo hs' hc' => ?_
          have h20 : ρ (.tmp 20) = .slice (some ⟨bb, 0, none⟩) R.length cv := hs'.new' 20 3 (by kernel_rfl)
          have h21 : ρ (.tmp 21) = .int .i64 (k : Int) := hs'.new' 21 4 (by kernel_rfl)
          go_simp
          try exact ⟨rfl, rfl⟩
        · refine Stg.owes_pure rfl (by kernel_rfl) fun ρ L wo hs' hc' => ?_
          have h5 : ρ (.tmp 5) = .pointer (some ⟨b5, 0, none⟩) := hs'.old' 5 (by kernel_rfl)
          have hx := HCB.out wo (Stg.stage_one (C := fun V => V = wr.drew ∨ (FilR wr.drew bb (k * 3) cur lv Lq g n) V) (Stg.stage_not hs'.world (hs'.beforeR 10 (by kernel_rfl))) (.inl rfl) (fun v hv => .inr hv))
          have c0 := cell_blk hx 0
          have c1 := cell_blk hx 1
          go_simp
          try exact ⟨rfl, rfl⟩
        · refine Stg.owes_turn (pre := [(10, (fun V => ∃ u, (FilR wr.drew bb (k * 3) cur lv Lq g n) u ∧ V = u.setCell ⟨b5, 1, none⟩ (.int .i64 (c' - n))))]) rfl rfl (by kernel_rfl) fun ρ L wo hs' hc' hw => ?_
          have h19 : ρ (.tmp 19) = .pointer (some ⟨bt, 0, none⟩) := hs'.new' 19 2 (by kernel_rfl)
          have h22 : ρ (.tmp 22) = .pointer (some ⟨bb, k * 3, none⟩) := hs'.new' 22 5 (by kernel_rfl)
          have h23 : ρ (.tmp 23) = .agg #[.string g, .int .i64 c'] := hs'.new' 23 6 (by kernel_rfl)
          have hf := hs'.func 43
          have e0 : wo = wr.drew := hw
          subst e0
          go_simp
          exact HFI.out.mono fun e w' h => ⟨_, h.1, rfl, ⟨rfl, h.2⟩⟩
        · refine Stg.owes_pure rfl (by kernel_rfl) fun ρ L wo hs' hc' => ?_
          have h18 : ρ (.tmp 18) = .int .i64 c' := hs'.new' 18 1 (by kernel_rfl)
          have h24 : ρ (.tmp 24) = .int .i64 n := hs'.new' 24 7 (by kernel_rfl)
          have hq := HCN.out
          go_simp
          first | exact IntWalk.i64_in _ (by omega) | exact IntWalk.wrap64_in _ (by omega) | exact congrArg (Value.int .i64) (IntWalk.i64_in _ (by omega))
        · refine Stg.owes_pure rfl (by kernel_rfl) fun ρ L wo hs' hc' => ?_
          have h5 : ρ (.tmp 5) = .pointer (some ⟨b5, 0, none⟩) := hs'.old' 5 (by kernel_rfl)
          go_simp
          try exact ⟨rfl, rfl⟩
        · refine Stg.owes_turn (pre := []) rfl rfl (by kernel_rfl) fun ρ L wo hs' hc' hw => ?_
          have h26 : ρ (.tmp 26) = .pointer (some ⟨b5, 1, none⟩) := hs'.new' 26 9 (by kernel_rfl)
          have h25 : ρ (.tmp 25) = .int .i64 (c' - n) := hs'.new' 25 8 (by kernel_rfl)
          have hr := Stg.stage_head hw (hs'.behindR 8 7 (by kernel_rfl))
          have hx := HCB.out wo (.inr hr)
          have c0 := cell_blk hx 0
          have c1 := cell_blk hx 1
          have f1 := free_blk hx 1
          go_simp
          exact ⟨wo, hr, rfl⟩
      intro L w9 hL hst
      obtain ⟨u, hu, rfl⟩ := Stg.stage_head hst (hL 10 (by decide))
      have HU := Lib.hid hu
      clear hL hst hu
      simp only [Any.putAll]
      go_frame
      go_wp2_with fail
      go_roundw
      case rel =>
        obtain ⟨Q', h1, h2⟩ := HST.out _ HU.out
        exact ⟨k + 1, Q', _, by omega, by go_num, h1, h2⟩
      case measure => (simp [intOf]) <;> omega
    · have HI2 := Lib.hid (in2_start hin (by omega) (by omega))
      have HE : Hid (∃ v2, v2 = Value.slice av R.length cv) := Lib.hid ⟨_, rfl⟩
      clear hin HI0
      obtain ⟨i0, hi, hz, hsz, hby⟩ := info_parts infoBx
      have HI := Lib.hid (And.intro hi (And.intro hz (And.intro hsz hby)))
      clear hi hz hsz hby
      generalize addB t ⟨g, c⟩ bs = res at *
      go_wp2_with fail
      go_loopw [1, 9, 10, 11] (fun v2 _ _ _ wr => ∃ (f : Nat) (Q : List Bv) (c' : Int), In2 t g c res w wr v2 b5 B f Q c') (fun v2 _ _ _ _ => match v2 with | .slice _ n _ => 65 - n | _ => 0)
      case atStart => exact ⟨_, Q, c', HI2.out⟩
      case round =>
        obtain ⟨f, Q, c', hin⟩ := hrel
        obtain ⟨a2, c2, rfl⟩ := Ord.row_slice hin.at'.own
        have x0 := cell_blk hin.box 0
        have x1 := cell_blk hin.box 1
        have l5 := lt_blk hin.box
        have hlen2 := hin.len
        have hfu := hin.fuel
        have hdone := hin.done
        have HBE := Lib.hid hin.below
        obtain ⟨f', rfl⟩ : ∃ f', f = f' + 1 := ⟨f - 1, by omega⟩
        rw [newB] at hdone
        by_cases hcc : c' ≤ 0
        · have t1 : decide (0 < c') = false := decide_eq_false (by omega)
          rw [if_pos hcc] at hdone
          have HD := Lib.hid hdone
          have HAT := Lib.hid hin.at'
          clear hin hdone hcc hfu
          go_wp2_with fail
          go_ret2
          exact ⟨HBE.out, .inr ⟨by rw [HD.out], _, Q, rfl, HAT.out, by rw [HD.out]⟩⟩
        rw [if_neg hcc] at hdone
        have t1 : decide (0 < c') = true := decide_eq_true (by omega)
        have HFR := Lib.hid (fresh_any t g c' bt bm wr (HAP.out _ HBE.out) (HTB.out _ HBE.out) hn HOK.out)
        have HCC := Lib.hid hcc
        have HIN := Lib.hid hin
        cases hkd : freshK t g c' with
        | none =>
          rw [hkd] at hdone
          have HD := Lib.hid hdone
          have hv : freshV t g c' = .tuple #[.int .i64 0, .bool false] := by rw [freshV, hkd]; rfl
          rw [hv] at HFR
          clear hin hdone hcc hfu hv hkd HIN
          go_wp2_with (first
            | ((with_reducible refine HFR.out.mono ?_); rintro e w3 ⟨rfl, hb3⟩; have HB3 := Lib.hid (HBE.out.trans (hb3.mono (Nat.le_of_lt (Nat.lt_of_le_of_lt HB5.out l5)))); clear hb3)
            | fail)
          go_ret2
          exact ⟨HB3.out, .inl ⟨by rw [HD.out]; decide, by rw [HD.out]; rfl⟩⟩
        | some kd =>
          rw [hkd] at hdone
          simp only at hdone
          rw [List.length_map] at hdone
          have hv : freshV t g c' = .tuple #[.int .i64 kd, .bool true] := by rw [freshV, hkd]; rfl
          rw [hv] at HFR
          by_cases h64 : 64 ≤ Q.length
          · have t64 : decide ((64 : Int) ≤ (Q.length : Int)) = true := decide_eq_true (by omega)
            have t64' : decide (64 ≤ Q.length) = true := decide_eq_true h64
            rw [if_pos h64] at hdone
            have HD := Lib.hid hdone
            clear hin hdone hcc hfu hv hkd HIN h64
            go_wp2_with (first
              | ((with_reducible refine HFR.out.mono ?_); rintro e w3 ⟨rfl, hb3⟩; have HB3 := Lib.hid (HBE.out.trans (hb3.mono (Nat.le_of_lt (Nat.lt_of_le_of_lt HB5.out l5)))); clear hb3)
              | fail)
            go_ret2
            exact ⟨HB3.out, .inl ⟨by rw [HD.out]; decide, by rw [HD.out]; rfl⟩⟩
          · have t64 : decide ((64 : Int) ≤ (Q.length : Int)) = false := decide_eq_false (by omega)
            have t64' : decide (64 ≤ Q.length) = false := decide_eq_false h64
            have hm1 := (fresh_may HOK.out (c := c') (by omega) hkd).2
            have hn1 := fillN_some (c := c') (by omega) hm1
            have hnc := fillN_le t kd [] g c'
            obtain ⟨n, hnn⟩ : ∃ n, n = fillN t kd [] g c' := ⟨_, rfl⟩
            rw [← hnn] at hn1 hnc
            have HN := Lib.hid hnn
            have HN1 := Lib.hid hn1
            have HK := Lib.hid hkd
            have HQ64 := Lib.hid h64
            have hhi := hin.hi
            have HCN : Hid ((n : Int) ≤ c' ∧ c' ≤ 1099511627776) := Lib.hid (by have := HC.out; omega)
            have HX5 := Lib.hid hin.box
            clear hin hdone hcc hfu hv hkd h64 hm1 hn1 hnc hnn hhi
            go_wp2_with (first
              | ((with_reducible refine HFR.out.mono ?_); rintro e w3 ⟨rfl, hb3⟩; have HB3 := Lib.hid hb3; clear hb3)
              | fail)
            obtain ⟨w6, hw6⟩ : ∃ w6, w6 = w3.alloc (.cells #[.string ⟨#[]⟩, .int .i64 kd, .slice none 0 0] 33) := ⟨_, rfl⟩
            obtain ⟨b11, hb11⟩ : ∃ b, b = w3.heap.size := ⟨_, rfl⟩
            have HX6 : Hid (w6.heap[b11]? = some (.cells #[.string ⟨#[]⟩, .int .i64 kd, .slice none 0 0] 33 (0, 0))) := Lib.hid (by rw [hw6, hb11]; exact heap_alloc_new w3 _)
            have HB6 : Hid (Below wr.heap.size wr w6) := Lib.hid (by rw [hw6]; exact HB3.out.alloc HB3.out.size _)
            have HB11 : Hid (wr.heap.size ≤ b11) := Lib.hid (by rw [hb11]; exact HB3.out.size)
            rw [← hw6, ← hb11]
            clear hw6 hb11
            have HBE6 := Lib.hid (HBE.out.trans (HB6.out.mono (Nat.le_of_lt (Nat.lt_of_le_of_lt HB5.out l5))))
            have hdw : Below B w w6.drew := HBE6.out.trans (below_drew' _ _)
            have HFI : Hid (Calls Tryd.prog 43 #[.pointer (some ⟨bt, 0, none⟩), .pointer (some ⟨b11, 0, none⟩), .agg #[.string g, .int .i64 c']] w6.drew (FilP w6.drew b11 0 #[.string ⟨#[]⟩, .int .i64 kd, .slice none 0 0] (.slice none 0 0) [] g n)) := Lib.hid (by
              rw [HN.out]
              exact fill_any t ⟨#[]⟩ g kd c' [] bt bm b11 0 _ (.slice none 0 0) w6.drew (HAP.out _ hdw) (World.ownsRow_nil _ _ _ _) (by simp) (HTB.out _ hdw) hn HOK.out HX6.out rfl rfl rfl (by have := HCN.out; omega))
            have HCB : Hid (∀ V, (V = w6.drew ∨ FilR w6.drew b11 0 #[.string ⟨#[]⟩, .int .i64 kd, .slice none 0 0] (.slice none 0 0) [] g n V) → V.heap[b5]? = some (.cells #[.string g, .int .i64 c'] 35 (0, 0))) := Lib.hid (fun V hV => by
              have h0 : w6.drew.heap[b5]? = some (.cells #[.string g, .int .i64 c'] 35 (0, 0)) := (show w6.heap[b5]? = _ from blk HB6.out l5 HX5.out)
              rcases hV with rfl | hV
              · exact h0
              · rcases hV.2 with ⟨_, hb⟩ | ⟨_, v', _, _, _, hkp⟩
                · exact (hb.block b5 (lt_blk h0)).trans h0
                · refine (hkp.block b5 (lt_blk h0) fun e => ?_).trans h0
                  rcases e with e | e
                  · have := HB11.out; omega
                  · cases e)
            have HMID := Lib.hid (fun V (hV : FilR w6.drew b11 0 #[.string ⟨#[]⟩, .int .i64 kd, .slice none 0 0] (.slice none 0 0) [] g n V) => in2_mid HIN.out HB6.out HB11.out HN1.out hV HB5.out)
            clear hdw x0 x1 l5
            refine Stg.region_lit (fun
              | 0 => .pointer (some ⟨b5, 1, none⟩)
              | 1 => .int .i64 c'
              | 2 => .pointer (some ⟨bt, 0, none⟩)
              | 3 => .agg #[.string g, .int .i64 c']
              | 4 => .int .i64 n
              | 5 => .int .i64 (c' - n)
              | 6 => .pointer (some ⟨b5, 1, none⟩)
              | 7 => undef
              | _ => undef) [(7, (fun V => ∃ u, (FilR w6.drew b11 0 #[.string ⟨#[]⟩, .int .i64 kd, .slice none 0 0] (.slice none 0 0) [] g n) u ∧ V = u.setCell ⟨b5, 1, none⟩ (.int .i64 (c' - n)))), (4, FilR w6.drew b11 0 #[.string ⟨#[]⟩, .int .i64 kd, .slice none 0 0] (.slice none 0 0) [] g n)] (by kernel_rfl) (by kernel_rfl) (by kernel_rfl) ?_ ?_
            · refine ⟨?_, ?_, ?_, ?_, ?_, ?_, ?_, ?_, trivial⟩
              · refine Stg.owes_pure rfl (by kernel_rfl) fun ρ L wo hs' hc' => ?_
                have h5 : ρ (.tmp 5) = .pointer (some ⟨b5, 0, none⟩) := hs'.old' 5 (by kernel_rfl)
                go_simp
                try exact ⟨rfl, rfl⟩
              · refine Stg.owes_pure rfl (by kernel_rfl) fun ρ L wo hs' hc' => ?_
                have h44 : ρ (.tmp 44) = .pointer (some ⟨b5, 1, none⟩) := hs'.new' 44 0 (by kernel_rfl)
                have hx := HCB.out wo (Stg.stage_one (C := fun V => V = w6.drew ∨ (FilR w6.drew b11 0 #[.string ⟨#[]⟩, .int .i64 kd, .slice none 0 0] (.slice none 0 0) [] g n) V) (Stg.stage_not hs'.world (hs'.beforeR 7 (by kernel_rfl))) (.inl rfl) (fun v hv => .inr hv))
                have c0 := cell_blk hx 0
                have c1 := cell_blk hx 1
                go_simp
                try exact ⟨rfl, rfl⟩
              · refine Stg.owes_pure rfl (by kernel_rfl) fun ρ L wo hs' hc' => ?_
                have h0 : ρ (.tmp 0) = .pointer (some ⟨bt, 0, none⟩) := hs'.old' 0 (by kernel_rfl)
                exact Any.ok_move ⟨h0, rfl⟩
              · refine Stg.owes_pure rfl (by kernel_rfl) fun ρ L wo hs' hc' => ?_
                have h5 : ρ (.tmp 5) = .pointer (some ⟨b5, 0, none⟩) := hs'.old' 5 (by kernel_rfl)
                have hx := HCB.out wo (Stg.stage_one (C := fun V => V = w6.drew ∨ (FilR w6.drew b11 0 #[.string ⟨#[]⟩, .int .i64 kd, .slice none 0 0] (.slice none 0 0) [] g n) V) (Stg.stage_not hs'.world (hs'.beforeR 7 (by kernel_rfl))) (.inl rfl) (fun v hv => .inr hv))
                have c0 := cell_blk hx 0
                have c1 := cell_blk hx 1
                go_simp
                try exact ⟨rfl, rfl⟩
              · refine Stg.owes_turn (pre := [(7, (fun V => ∃ u, (FilR w6.drew b11 0 #[.string ⟨#[]⟩, .int .i64 kd, .slice none 0 0] (.slice none 0 0) [] g n) u ∧ V = u.setCell ⟨b5, 1, none⟩ (.int .i64 (c' - n))))]) rfl rfl (by kernel_rfl) fun ρ L wo hs' hc' hw => ?_
                have h46 : ρ (.tmp 46) = .pointer (some ⟨bt, 0, none⟩) := hs'.new' 46 2 (by kernel_rfl)
                have h11 : ρ (.tmp 11) = .pointer (some ⟨b11, 0, none⟩) := hs'.old' 11 (by kernel_rfl)
                have h47 : ρ (.tmp 47) = .agg #[.string g, .int .i64 c'] := hs'.new' 47 3 (by kernel_rfl)
                have hf := hs'.func 43
                have e0 : wo = w6.drew := hw
                subst e0
                go_simp
                exact HFI.out.mono fun e w' h => ⟨_, h.1, rfl, ⟨rfl, h.2⟩⟩
              · refine Stg.owes_pure rfl (by kernel_rfl) fun ρ L wo hs' hc' => ?_
                have h45 : ρ (.tmp 45) = .int .i64 c' := hs'.new' 45 1 (by kernel_rfl)
                have h48 : ρ (.tmp 48) = .int .i64 n := hs'.new' 48 4 (by kernel_rfl)
                have hq := HCN.out
                go_simp
                first | exact IntWalk.i64_in _ (by omega) | exact IntWalk.wrap64_in _ (by omega) | exact congrArg (Value.int .i64) (IntWalk.i64_in _ (by omega))
              · refine Stg.owes_pure rfl (by kernel_rfl) fun ρ L wo hs' hc' => ?_
                have h5 : ρ (.tmp 5) = .pointer (some ⟨b5, 0, none⟩) := hs'.old' 5 (by kernel_rfl)
                go_simp
                try exact ⟨rfl, rfl⟩
              · refine Stg.owes_turn (pre := []) rfl rfl (by kernel_rfl) fun ρ L wo hs' hc' hw => ?_
                have h50 : ρ (.tmp 50) = .pointer (some ⟨b5, 1, none⟩) := hs'.new' 50 6 (by kernel_rfl)
                have h49 : ρ (.tmp 49) = .int .i64 (c' - n) := hs'.new' 49 5 (by kernel_rfl)
                have hr := Stg.stage_head hw (hs'.behindR 5 4 (by kernel_rfl))
                have hx := HCB.out wo (.inr hr)
                have c0 := cell_blk hx 0
                have c1 := cell_blk hx 1
                have f1 := free_blk hx 1
                go_simp
                exact ⟨wo, hr, rfl⟩
            intro L w9 hL hst
            obtain ⟨u, hu, rfl⟩ := Stg.stage_head hst (hL 7 (by decide))
            have HU := Lib.hid hu
            clear hL hst hu
            simp only [Any.putAll]
            go_frame
            have HM7 := HMID.out _ HU.out
            obtain ⟨W7, hW7⟩ : ∃ W, W = u.setCell ⟨b5, 1, none⟩ (.int .i64 (c' - n)) := ⟨_, rfl⟩
            rw [← hW7] at HM7 ⊢
            clear hW7
            obtain ⟨a1, c1, q11, qat, qrow, qap, qoff, qbx, qbel⟩ := HM7
            have HQA := Lib.hid qat.own
            have HLA := Lib.hid (show Q.length + 1 ≤ maxLen ∧ (Q.length + 1) * 48 ≤ 140737488355328 ∧ B ≤ W7.heap.size by
              have h1 := HQ64.out
              have h2 := lt_blk qbx
              have h3 := HB5.out
              simp only [maxLen]
              omega)
            have HNX := Lib.hid (fun v2 W ho hg => in2_next HIN.out (by have := HCC.out; omega) HK.out HQ64.out HN.out qat qrow qap qoff qbx qbel HB5.out (v2 := v2) (W := W) ho hg)
            have y0 := cell_blk q11 0
            have y1 := cell_blk q11 1
            have y2 := cell_blk q11 2
            have l11 := lt_blk q11
            clear qat qrow qap qoff qbx qbel q11
            go_wp2_with (first
              | ((with_reducible refine Any.wpl_push ?_ ?_ ?_ Tryd.underlying28 HI.out.1 HI.out.2.1 HI.out.2.2.1 HI.out.2.2.2 ?_ (by decide) ?_ ((by intro x hx; simp at hx; rcases hx with rfl | rfl | rfl <;> simp [Value.oneCell'])) (HQA.out) HLA.out.1 HLA.out.2.1 HLA.out.2.2 ?_); rfl; rfl; rfl; rfl; rfl; intro v9 w9 hown9 hgrow9 hwho9)
              | fail)
            go_roundw
            case rel =>
              obtain ⟨f', h1⟩ := HNX.out _ _ hown9 hgrow9
              exact ⟨f', _, _, h1⟩
            case measure =>
              obtain ⟨f', h1⟩ := HNX.out _ _ hown9 hgrow9
              obtain ⟨a9, c9, rfl⟩ := Ord.row_slice hown9
              have := HQ64.out
              simp only
              omega
end Go.Proofs.YtgnfdplphpejaaaDoor.Sc
