/- A region that draws its order, met operation by operation, where some operations may write blocks that lay there before: each operation says which of these it takes up. The elder theorem (Any.region_lit) knows new blocks alone. No program in sight. -/
import Derived.Test.YtnbhneeohkfocaaDoorTo03
namespace Go.Proofs.YtnbhneeohkfocaaDoor.Ord
open Go Go.RowKit Any
set_option maxRecDepth 100000

/-- What is known of an operation's operands (as they were read), its value and the blocks that it owns (until it is used up); the operations whose values it uses up; the blocks of before that it takes up. -/
structure Spec where
  know : (Operand → Value) → Value → (Nat → Prop) → World → Prop
  takes : List Nat
  here : Nat → Prop

section
variable {P : Program} {ops : Array Oper} {Q : Exit → Act → World → Prop}
/-- F: all blocks of before that may turn. -/
structure Apart (ops : Array Oper) (S : Nat → Spec) (F : Nat → Prop) (w0 : World) : Prop where
  all : ∀ k b, k < ops.size → (S k).here b → F b
  old : ∀ k b, k < ops.size → (S k).here b → b < w0.heap.size
  apart : ∀ k k' b, k < ops.size → k' < ops.size → k ≠ k' → (S k).here b → ¬ (S k').here b

/-- What an operation owes behind its run. -/
def Post (S : Nat → Spec) (Os : Nat → Nat → Prop) (i : Nat) (ρ : Operand → Value) (w : World) (v : Value) (w' : World) : Prop :=
  ∃ O : Nat → Prop, (S i).know ρ v O w' ∧ (w'.os = w.os ∧ w'.tape = w.tape ∧ w'.output = w.output) ∧ w.heap.size ≤ w'.heap.size ∧
  (∀ b, b < w.heap.size → (∀ j, j ∈ (S i).takes → ¬ Os j b) → ¬ (S i).here b → w'.heap[b]? = w.heap[b]?) ∧
  (∀ b, O b → (∃ j, j ∈ (S i).takes ∧ Os j b) ∨ w.heap.size ≤ b ∨ (S i).here b)

/-- Operation k waits for operation i, over edges. -/
def reach (ops : Array Oper) : Nat → Nat → Nat → Bool
  | 0, k, i => k == i
  | n + 1, k, i => k == i || match ops[k]? with | some o => o.after.any fun e => Region.binds .any e && reach ops n e.on i | none => false

/-- What an operation may use. -/
structure Sees (ops : Array Oper) (S : Nat → Spec) (F : Nat → Prop) (w0 : World) (a0 : Act) (i : Nat) (o : Oper) (ρ : Operand → Value) (Os : Nat → Nat → Prop) (w : World) : Prop where
  keep : Sc.Keep F w0 w
  here : ∀ b, (S i).here b → w.heap[b]? = w0.heap[b]?
  early : ∀ k, k < ops.size → reach ops ops.size k i = true → ∀ b, (S k).here b → w.heap[b]? = w0.heap[b]?
  const : ∀ c, ρ (.const c) = c
  glob : ∀ g, ρ (.global g) = .pointer (some ⟨g, 0, none⟩)
  func : ∀ f, ρ (.func f) = .func (.func f) #[] #[]
  old : ∀ t, t ∈ o.looksAt ops → writer ops t = none → ρ (.tmp t) = a0.tmps.getD t undef
  new : ∀ t j, t ∈ o.looksAt ops → writer ops t = some j → late ops i j = false → ∃ ρ', (S j).know ρ' (ρ (.tmp t)) (Os j) w
  prior : ∀ t j, t ∈ o.looksAt ops → writer ops t = some j → late ops i j = true → ρ (.tmp t) = a0.tmps.getD t undef
  took : ∀ j, j ∈ (S i).takes → ∃ ρ' v, (S j).know ρ' v (Os j) w
  tookApart : ∀ j j', j ∈ (S i).takes → j' ∈ (S i).takes → j ≠ j' → ∀ b, Os j b → ¬ Os j' b
  stood : ∀ j, j < ops.size → j ≠ i → reach ops ops.size i j = true → (∀ k, k < ops.size → j ∈ (S k).takes → k = i ∨ reach ops ops.size k i = true) → ∃ ρ' v, (S j).know ρ' v (Os j) w

/-- One operation's debt. -/
def Owes (P : Program) (ops : Array Oper) (S : Nat → Spec) (F : Nat → Prop) (w0 : World) (a0 : Act) (i : Nat) (o : Oper) : Prop :=
  ∀ (ρ : Operand → Value) (Os : Nat → Nat → Prop) (w : World), Sees ops S F w0 a0 i o ρ Os w →
    if wantR ops ρ o then OpOk P o ρ w (Post S Os i ρ w) else (S i).know ρ undef (fun _ => False) w

/-- The facts that must outlast changes elsewhere. -/
structure Lasts (F : Nat → Prop) (s : Spec) (w0 : World) : Prop where
  range : ∀ ρ v O w, s.know ρ v O w → ∀ b, O b → b < w.heap.size
  keep : ∀ ρ v O w w', s.know ρ v O w → Sc.Keep F w0 w → Sc.Keep F w0 w' → w.heap.size ≤ w'.heap.size → (∀ b, O b → w'.heap[b]? = w.heap[b]?) → s.know ρ v O w'

structure Inv (ops : Array Oper) (S : Nat → Spec) (F : Nat → Prop) (w0 : World) (a0 : Act) (listed : Array Bool) (a : Act) (w : World) (vals : Nat → Value) (Os : Nat → Nat → Prop) (ρs : Nat → Operand → Value) : Prop where
  size : listed.size = ops.size
  act : a = ⟨frame ops a0.tmps (fun j => listed.getD j false) vals, a0.defers⟩
  keep : Sc.Keep F w0 w
  closed : ∀ (k : Nat) (o : Oper), ops[k]? = some o → listed.getD k false = true → ∀ e ∈ o.after, Region.binds .any e = true → listed.getD e.on false = true
  know : ∀ j, j < ops.size → listed.getD j false = true → (∀ k, k < ops.size → j ∈ (S k).takes → listed.getD k false = false) → (S j).know (ρs j) (vals j) (Os j) w
  links : ∀ i o t j, ops[i]? = some o → listed.getD i false = true → t ∈ o.looksAt ops → writer ops t = some j → late ops i j = false → ρs i (.tmp t) = vals j
  apart : ∀ i j, i < ops.size → j < ops.size → i ≠ j → listed.getD i false = true → listed.getD j false = true →
    (∀ k, k < ops.size → i ∈ (S k).takes → listed.getD k false = false) → (∀ k, k < ops.size → j ∈ (S k).takes → listed.getD k false = false) → ∀ b, Os i b → ¬ Os j b
  bound : ∀ j, j < ops.size → listed.getD j false = true → (∀ k, k < ops.size → j ∈ (S k).takes → listed.getD k false = false) → ∀ b, Os j b → w0.heap.size ≤ b ∨ ∃ k, k < ops.size ∧ listed.getD k false = true ∧ (S k).here b
  untouched : ∀ k, k < ops.size → listed.getD k false = false → ∀ b, (S k).here b → w.heap[b]? = w0.heap[b]?

variable {S : Nat → Spec} {F : Nat → Prop} {w0 : World} {a0 : Act}

theorem Inv.reached {listed : Array Bool} {a : Act} {w : World} {vals : Nat → Value} {Os : Nat → Nat → Prop} {ρs : Nat → Operand → Value} (hinv : Inv ops S F w0 a0 listed a w vals Os ρs) : ∀ (n k i : Nat), reach ops n k i = true → listed.getD k false = true → listed.getD i false = true
  | 0, k, i, h, hk => by
    obtain rfl : k = i := by simpa [reach] using h
    exact hk
  | n + 1, k, i, h, hk => by
    simp only [reach, Bool.or_eq_true, beq_iff_eq] at h
    rcases h with rfl | h
    · exact hk
    · cases ho : ops[k]? with
      | none => rw [ho] at h; cases h
      | some o =>
        rw [ho] at h
        simp only [Array.any_eq_true] at h
        obtain ⟨j, hj, hb⟩ := h
        simp only [Bool.and_eq_true] at hb
        exact hinv.reached n _ i hb.2 (hinv.closed k o ho hk _ (Array.getElem_mem hj) hb.1)

/-- A ready operation's step keeps all that is known. -/
theorem Inv.step {listed : Array Bool} {a : Act} {w w' : World} {vals : Nat → Value} {Os : Nat → Nat → Prop} {ρs : Nat → Operand → Value} (hgood : good ops (fun i => (S i).takes) = true) (hlast : ∀ i, i < ops.size → Lasts F (S i) w0) (hF : Apart ops S F w0)
    (hinv : Inv ops S F w0 a0 listed a w vals Os ρs) {i : Nat} {o : Oper} {v : Value} {ρ : Operand → Value} (ho : ops[i]? = some o) (hL : listed.getD i true = false) (hpre : ∀ e ∈ o.after, Region.binds .any e = true → listed.getD e.on false = true)
    (hρ : ∀ t j, t ∈ o.looksAt ops → writer ops t = some j → late ops i j = false → listed.getD j false = true ∧ ρ (.tmp t) = vals j) (hpost : Post S Os i ρ w v w') : ∃ Os' ρs', Inv ops S F w0 a0 (listed.setIfInBounds i true) (a.put o.dst v) w' (fun j => if j = i then v else vals j) Os' ρs' := by
  have hin : i < ops.size := (Array.getElem?_eq_some_iff.1 ho).1
  have hil : i < listed.size := by rw [hinv.size]; exact hin
  have hLf : listed.getD i false = false := by
    simp only [Array.getD_eq_getD_getElem?, Array.getElem?_eq_getElem hil] at hL ⊢
    exact hL
  obtain ⟨hsel, hat⟩ := good_spec hgood
  have G := goodAt_spec (hat i o ho)
  obtain ⟨O, p1, ⟨q1, q2, q3⟩, p3, p4, p5⟩ := hpost
  have hset := fun j => getD_set (listed := listed) hil j
  -- the values that are used up: alive till now
  have htake : ∀ j, j ∈ (S i).takes → j < ops.size ∧ listed.getD j false = true ∧ (∀ k, k < ops.size → j ∈ (S k).takes → listed.getD k false = false) := by
    intro j hj
    obtain ⟨he, hone⟩ := G.takes j hj
    obtain ⟨e, hea, heb, hej⟩ := edge_spec he
    have hLj : listed.getD j false = true := hej ▸ hpre e hea heb
    refine ⟨?_, hLj, fun k hk hjk => ?_⟩
    · rw [← hinv.size]
      rcases Nat.lt_or_ge j listed.size with h | h
      · exact h
      · simp [Array.getD_eq_getD_getElem?, Array.getElem?_eq_none h] at hLj
    · by_cases hki : k = i
      · subst hki; exact hLf
      · exact absurd hjk (hone k hk hki)
  -- what was alive and still is, was not used up now
  have hlive : ∀ j, (∀ k, k < ops.size → j ∈ (S k).takes → (listed.setIfInBounds i true).getD k false = false) → j ∉ (S i).takes ∧ (∀ k, k < ops.size → j ∈ (S k).takes → listed.getD k false = false) := by
    intro j h
    refine ⟨fun hji => ?_, fun k hk hjk => ?_⟩
    · have := h i hin hji
      rw [hset, if_pos rfl] at this
      cases this
    · have := h k hk hjk
      rw [hset] at this
      split at this
      · cases this
      · exact this
  have hkeep : Sc.Keep F w0 w' := by
    refine ⟨q1.trans hinv.keep.os, q2.trans hinv.keep.tape, q3.trans hinv.keep.output, Nat.le_trans hinv.keep.size p3, fun b hb hnF => ?_⟩
    refine (p4 b (Nat.lt_of_lt_of_le hb hinv.keep.size) (fun j hj hOj => ?_) (fun hf => hnF (hF.all i b hin hf))).trans (hinv.keep.block b hb hnF)
    obtain ⟨r1, r2, r3⟩ := htake j hj
    rcases hinv.bound j r1 r2 r3 b hOj with h | ⟨k, hk, _, hf⟩
    · omega
    · exact hnF (hF.all k b hk hf)
  refine ⟨fun j => if j = i then O else Os j, fun j => if j = i then ρ else ρs j, by simp [hinv.size], ?_, hkeep, ?_, ?_, ?_, ?_, ?_, ?_⟩
  · rw [hinv.act, frame_put ho G.dst]
    congr 2
    funext j
    rw [hset]
  · intro k ok hok hk e he hb
    rw [hset] at hk ⊢
    split
    · rfl
    · by_cases hki : k = i
      · subst hki
        rw [ho] at hok
        obtain rfl := Option.some.inj hok
        exact hpre e he hb
      · rw [if_neg hki] at hk
        exact hinv.closed k ok hok hk e he hb
  · intro j hj hLj hfree
    obtain ⟨hnt, hfree'⟩ := hlive j hfree
    by_cases hji : j = i
    · subst hji; simp only [if_pos]; exact p1
    · simp only [if_neg hji]
      rw [hset, if_neg hji] at hLj
      have hk := hinv.know j hj hLj hfree'
      refine (hlast j hj).keep _ _ _ _ _ hk hinv.keep hkeep p3 fun b hb => ?_
      refine p4 b ((hlast j hj).range _ _ _ _ hk b hb) (fun j' hj' hb' => ?_) (fun hf => ?_)
      · obtain ⟨r1, r2, r3⟩ := htake j' hj'
        have hne : j ≠ j' := fun e => hnt (e ▸ hj')
        exact hinv.apart j j' hj r1 hne hLj r2 hfree' r3 b hb hb'
      · rcases hinv.bound j hj hLj hfree' b hb with h | ⟨k, hk', hLk, hf'⟩
        · have := hF.old i b hin hf; omega
        · have hki : k ≠ i := fun e => by rw [e, hLf] at hLk; cases hLk
          exact hF.apart k i b hk' hin hki hf' hf
  · intro x ox t j hox hLx ht hj hla
    have hji : listed.getD j false = true → j ≠ i := fun h e => by rw [e, hLf] at h; cases h
    by_cases hxi : x = i
    · subst hxi
      rw [ho] at hox
      obtain rfl := Option.some.inj hox
      obtain ⟨h1, h2⟩ := hρ t j ht hj hla
      simp only [if_pos, if_neg (hji h1)]
      exact h2
    · rw [hset, if_neg hxi] at hLx
      have hLj : listed.getD j false = true := by
        obtain ⟨e, hea, heb, hej⟩ := edge_spec ((goodAt_spec (hat x ox hox)).looks t j ht hj hla).1
        exact hej ▸ hinv.closed x ox hox hLx e hea heb
      simp only [if_neg hxi, if_neg (hji hLj)]
      exact hinv.links x ox t j hox hLx ht hj hla
  · intro x y hx hy hxy hLx hLy hfx hfy b hbx hby
    obtain ⟨hnx, hfx'⟩ := hlive x hfx
    obtain ⟨hny, hfy'⟩ := hlive y hfy
    rw [hset] at hLx hLy
    have other : ∀ z, z < ops.size → z ≠ i → listed.getD z false = true → z ∉ (S i).takes → (∀ k, k < ops.size → z ∈ (S k).takes → listed.getD k false = false) → ∀ b, O b → ¬ Os z b := by
      intro z hz hzi hLz hnz hfz b hb hbz
      rcases p5 b hb with ⟨j', hj', hb'⟩ | hge | hf
      · obtain ⟨r1, r2, r3⟩ := htake j' hj'
        exact hinv.apart z j' hz r1 (fun e => hnz (e ▸ hj')) hLz r2 hfz r3 b hbz hb'
      · have := (hlast z hz).range _ _ _ _ (hinv.know z hz hLz hfz) b hbz
        omega
      · rcases hinv.bound z hz hLz hfz b hbz with h | ⟨k, hk', hLk, hf'⟩
        · have := hF.old i b hin hf; omega
        · have hki : k ≠ i := fun e => by rw [e, hLf] at hLk; cases hLk
          exact hF.apart k i b hk' hin hki hf' hf
    by_cases hxi : x = i
    · subst hxi
      have hyi : y ≠ x := fun e => hxy e.symm
      simp only [if_pos] at hbx
      simp only [if_neg hyi] at hby
      rw [if_neg hyi] at hLy
      exact other y hy hyi hLy hny hfy' b hbx hby
    · by_cases hyi : y = i
      · subst hyi
        simp only [if_pos] at hby
        simp only [if_neg hxi] at hbx
        rw [if_neg hxi] at hLx
        exact other x hx hxi hLx hnx hfx' b hby hbx
      · simp only [if_neg hxi] at hbx
        simp only [if_neg hyi] at hby
        rw [if_neg hxi] at hLx
        rw [if_neg hyi] at hLy
        exact hinv.apart x y hx hy hxy hLx hLy hfx' hfy' b hbx hby
  · intro z hz hLz hfz b hb
    obtain ⟨hnz, hfz'⟩ := hlive z hfz
    have up : ∀ {b}, (∃ k, k < ops.size ∧ listed.getD k false = true ∧ (S k).here b) → ∃ k, k < ops.size ∧ (listed.setIfInBounds i true).getD k false = true ∧ (S k).here b := by
      rintro b ⟨k, h1, h2, h3⟩
      exact ⟨k, h1, by rw [hset]; split <;> simp [h2], h3⟩
    by_cases hzi : z = i
    · subst hzi
      simp only [if_pos] at hb
      rcases p5 b hb with ⟨j', hj', hb'⟩ | hge | hf
      · obtain ⟨r1, r2, r3⟩ := htake j' hj'
        exact (hinv.bound j' r1 r2 r3 b hb').imp id up
      · exact .inl (Nat.le_trans hinv.keep.size hge)
      · exact .inr ⟨z, hz, by rw [hset, if_pos rfl], hf⟩
    · simp only [if_neg hzi] at hb
      rw [hset, if_neg hzi] at hLz
      exact (hinv.bound z hz hLz hfz' b hb).imp id up
  · intro k hk hLk b hf
    rw [hset] at hLk
    have hki : k ≠ i := fun e => by rw [if_pos e] at hLk; cases hLk
    rw [if_neg hki] at hLk
    have hbl := hF.old k b hk hf
    refine (p4 b (Nat.lt_of_lt_of_le hbl hinv.keep.size) (fun j hj hOj => ?_) (fun hf' => hF.apart k i b hk hin hki hf hf')).trans (hinv.untouched k hk hLk b hf)
    obtain ⟨r1, r2, r3⟩ := htake j hj
    rcases hinv.bound j r1 r2 r3 b hOj with h | ⟨k', hk', hLk', hf'⟩
    · omega
    · exact hF.apart k k' b hk hk' (fun e => by rw [e, hLk'] at hLk; cases hLk) hf hf'

theorem any_sound (hgood : good ops (fun i => (S i).takes) = true) (hlast : ∀ i, i < ops.size → Lasts F (S i) w0) (hF : Apart ops S F w0) (hfits : ∀ (j : Nat) (oj : Oper) (d : Tmp), ops[j]? = some oj → oj.dst = some d → d < a0.tmps.size)
    (howe : ∀ i o, ops[i]? = some o → Owes P ops S F w0 a0 i o)
    (hfin : ∀ (vals : Nat → Value) (Os : Nat → Nat → Prop) (ρs : Nat → Operand → Value) (w : World), Sc.Keep F w0 w → (∀ j, j < ops.size → (∀ k, k < ops.size → j ∉ (S k).takes) → (S j).know (ρs j) (vals j) (Os j) w) →
      (∀ i o t j, ops[i]? = some o → t ∈ o.looksAt ops → writer ops t = some j → late ops i j = false → ρs i (.tmp t) = vals j) →
      (∀ i j, i < ops.size → j < ops.size → i ≠ j → (∀ k, k < ops.size → i ∉ (S k).takes) → (∀ k, k < ops.size → j ∉ (S k).takes) → ∀ b, Os i b → ¬ Os j b) →
      (∀ j, j < ops.size → (∀ k, k < ops.size → j ∉ (S k).takes) → ∀ b, Os j b → w0.heap.size ≤ b ∨ F b) →
      Q .normal (putAll ops.toList 0 a0 vals) w) :
    ∀ (fuel : Nat) (listed : Array Bool) (a : Act) (w : World) (vals : Nat → Value) (Os : Nat → Nat → Prop) (ρs : Nat → Operand → Value), Inv ops S F w0 a0 listed a w vals Os ρs → listed.count false ≤ fuel → wpAny P .any ops Q fuel listed a w := by
  obtain ⟨hsel, hat⟩ := good_spec hgood
  -- all are listed where none is ready
  have hall : ∀ (listed : Array Bool) (a : Act) (w : World) (vals : Nat → Value) (Os : Nat → Nat → Prop) (ρs : Nat → Operand → Value), Inv ops S F w0 a0 listed a w vals Os ρs → Region.ready .any ops listed = [] → ∀ i, i < ops.size → listed.getD i false = true := by
    intro listed a w vals Os ρs hinv hnil i
    induction i using Nat.strongRecOn with
    | _ i ih =>
      intro hi
      cases hc : listed.getD i false with
      | true => rfl
      | false =>
        exfalso
        have hil : i < listed.size := by rw [hinv.size]; exact hi
        have hm : i ∈ Region.ready .any ops listed := by
          rw [mem_ready]
          refine ⟨?_, ops[i], Array.getElem?_eq_getElem hi, fun e he hb => ?_⟩
          · simp only [Array.getD_eq_getD_getElem?, Array.getElem?_eq_getElem hil] at hc ⊢
            exact hc
          · have hlt := (goodAt_spec (hat i _ (Array.getElem?_eq_getElem hi))).early e he hb
            exact ih e.on hlt (by omega)
        rw [hnil] at hm
        cases hm
  have hend : ∀ (listed : Array Bool) (a : Act) (w : World) (vals : Nat → Value) (Os : Nat → Nat → Prop) (ρs : Nat → Operand → Value), Inv ops S F w0 a0 listed a w vals Os ρs → (∀ i, i < ops.size → listed.getD i false = true) → Q .normal a w := by
    intro listed a w vals Os ρs hinv hL
    have hp := putAll_frame (ops := ops) (base := a0.tmps) (fun i o d ho hd => (goodAt_spec (hat i o ho)).dst d hd) a0.defers vals ops.toList 0 (by intro j; simp)
    have e0 : (⟨frame ops a0.tmps (fun j => decide (j < 0)) vals, a0.defers⟩ : Act) = a0 := by
      obtain ⟨tm, df⟩ := a0
      simp only [Act.mk.injEq, and_true]
      apply Array.ext_getElem?
      intro t
      simp only [frame, Array.getElem?_mapIdx]
      cases tm[t]? with
      | none => rfl
      | some x => cases hj : writer ops t <;> simp
    rw [e0] at hp
    have e1 : a = putAll ops.toList 0 a0 vals := by
      rw [hp, hinv.act]
      congr 1
      apply Array.ext_getElem?
      intro t
      simp only [frame, Array.getElem?_mapIdx]
      congr 1
      funext x
      cases hj : writer ops t with
      | none => rfl
      | some j =>
        have hlt := (writer_some hj).1
        simp [hL j hlt, hlt]
    rw [e1]
    refine hfin vals Os ρs w hinv.keep (fun j hj hfree => hinv.know j hj (hL j hj) fun k hk hjk => absurd hjk (hfree k hk)) (fun i o t j ho ht hj hla => hinv.links i o t j ho (hL i (Array.getElem?_eq_some_iff.1 ho).1) ht hj hla) ?_ (fun j hj hfree b hb => (hinv.bound j hj (hL j hj) (fun k hk hjk => absurd hjk (hfree k hk)) b hb).imp id fun ⟨k, h1, _, h3⟩ => hF.all k b h1 h3)
    intro i j hi hj hij hfi hfj
    exact hinv.apart i j hi hj hij (hL i hi) (hL j hj) (fun k hk h => absurd h (hfi k hk)) (fun k hk h => absurd h (hfj k hk))
  intro fuel
  induction fuel with
  | zero =>
    intro listed a w vals Os ρs hinv hc
    have hL : ∀ i, i < ops.size → listed.getD i false = true := by
      intro i hi
      have hil : i < listed.size := by rw [hinv.size]; exact hi
      cases hb : listed.getD i false with
      | true => rfl
      | false =>
        exfalso
        have h1 : listed[i] = false := by simpa [Array.getD_eq_getD_getElem?, hil] using hb
        have h2 : false ∈ listed := h1 ▸ Array.getElem_mem hil
        have h3 := Array.count_pos_iff.2 h2
        omega
    refine ⟨?_, hend listed a w vals Os ρs hinv hL⟩
    cases hr : Region.ready .any ops listed with
    | nil => rfl
    | cons i rest =>
      exfalso
      have hm : i ∈ Region.ready .any ops listed := by rw [hr]; exact List.mem_cons_self
      rw [mem_ready] at hm
      obtain ⟨h1, o, ho, _⟩ := hm
      have hi := (Array.getElem?_eq_some_iff.1 ho).1
      have hil : i < listed.size := by rw [hinv.size]; exact hi
      have h2 := hL i hi
      simp only [Array.getD_eq_getD_getElem?, Array.getElem?_eq_getElem hil, Option.getD_some] at h1 h2
      rw [h1] at h2
      cases h2
  | succ fuel ih =>
    intro listed a w vals Os ρs hinv hc
    refine ⟨fun hnil => hend listed a w vals Os ρs hinv (hall listed a w vals Os ρs hinv hnil), fun i hi => ?_⟩
    rw [mem_ready] at hi
    obtain ⟨hL, o, ho, hpre⟩ := hi
    have hin := (Array.getElem?_eq_some_iff.1 ho).1
    have hil : i < listed.size := by rw [hinv.size]; exact hin
    have hLf : listed[i] = false := by simpa [Array.getD_eq_getD_getElem?, hil] using hL
    have hcount : (listed.setIfInBounds i true).count false ≤ fuel := by
      rw [Array.setIfInBounds_def, dif_pos hil, Array.count_set, hLf]
      have h3 : 0 < listed.count false := Array.count_pos_iff.2 (hLf ▸ Array.getElem_mem hil)
      simp
      omega
    have G := goodAt_spec (hat i o ho)
    have htk : ∀ j, j ∈ (S i).takes → j < ops.size ∧ listed.getD j false = true ∧ (∀ k, k < ops.size → j ∈ (S k).takes → listed.getD k false = false) := by
      intro j hj
      obtain ⟨he, hone⟩ := G.takes j hj
      obtain ⟨e, hea, heb, hej⟩ := edge_spec he
      have hLj : listed.getD j false = true := hej ▸ hpre e hea heb
      refine ⟨?_, hLj, fun k hk hjk => ?_⟩
      · rw [← hinv.size]
        rcases Nat.lt_or_ge j listed.size with h | h
        · exact h
        · simp [Array.getD_eq_getD_getElem?, Array.getElem?_eq_none h] at hLj
      · by_cases hki : k = i
        · subst hki
          simpa [Array.getD_eq_getD_getElem?, hil] using hL
        · exact absurd hjk (hone k hk hki)
    have hsees : Sees ops S F w0 a0 i o a.eval Os w := by
      refine ⟨hinv.keep, hinv.untouched i hin (by simpa [Array.getD_eq_getD_getElem?, hil] using hL), fun k hk hr => hinv.untouched k hk ?_, fun _ => rfl, fun _ => rfl, fun _ => rfl, fun t _ hw => ?_, fun t j ht hw hla => ?_, fun t j _ hw hla => ?_, fun j hj => ⟨ρs j, vals j, hinv.know j (htk j hj).1 (htk j hj).2.1 (htk j hj).2.2⟩, fun j j' hj hj' hne => hinv.apart j j' (htk j hj).1 (htk j' hj').1 hne (htk j hj).2.1 (htk j' hj').2.1 (htk j hj).2.2 (htk j' hj').2.2, fun j hj hji hr htk' => ⟨ρs j, vals j, ?_⟩⟩
      rotate_right
      · have hLj : listed.getD j false = true := by
          cases hn : ops.size with
          | zero => omega
          | succ n =>
            rw [hn] at hr
            simp only [reach, Bool.or_eq_true, beq_iff_eq] at hr
            rcases hr with h | h
            · exact absurd h.symm hji
            · rw [ho] at h
              simp only [Array.any_eq_true] at h
              obtain ⟨q, hq, hb⟩ := h
              simp only [Bool.and_eq_true] at hb
              exact hinv.reached n _ j hb.2 (hpre _ (Array.getElem_mem hq) hb.1)
        refine hinv.know j hj hLj fun k hk hjk => ?_
        rcases htk' k hk hjk with rfl | h
        · simpa [Array.getD_eq_getD_getElem?, hil] using hL
        · cases hLk : listed.getD k false with
          | false => rfl
          | true =>
            have := hinv.reached _ _ _ h hLk
            simp [Array.getD_eq_getD_getElem?, hil, hLf] at this
      · cases hLk : listed.getD k false with
        | false => rfl
        | true =>
          have := hinv.reached _ _ _ hr hLk
          simp [Array.getD_eq_getD_getElem?, hil, hLf] at this
      · rw [hinv.act]; exact read_old hw
      · obtain ⟨he, hone⟩ := G.looks t j ht hw hla
        obtain ⟨e, hea, heb, hej⟩ := edge_spec he
        have hLj : listed.getD j false = true := hej ▸ hpre e hea heb
        obtain ⟨hjn, hjd⟩ := writer_some hw
        have htl : t < a0.tmps.size := by
          cases hoj : ops[j]? with
          | none => rw [hoj] at hjd; cases hjd
          | some oj => rw [hoj] at hjd; exact hfits j oj t hoj hjd
        have hr : a.eval (.tmp t) = vals j := by
          rw [hinv.act]
          exact read_frame (L := fun j => listed.getD j false) hw hLj htl
        rw [hr]
        refine ⟨ρs j, hinv.know j hjn hLj fun k hk hjk => ?_⟩
        by_cases hki : k = i
        · subst hki
          simpa [Array.getD_eq_getD_getElem?, hil] using hL
        · cases hLk : listed.getD k false with
          | false => rfl
          | true =>
            exfalso
            have hek := hone k ops[k] hki (Array.getElem?_eq_getElem hk) hjk
            obtain ⟨e', he', hb', hon⟩ := edge_spec hek
            have := hinv.closed k _ (Array.getElem?_eq_getElem hk) hLk e' he' hb'
            rw [hon] at this
            simp [Array.getD_eq_getD_getElem?, hil, hLf] at this
      · rw [hinv.act]
        refine read_late (L := fun j => listed.getD j false) hw ?_
        cases hLj : listed.getD j false with
        | false => rfl
        | true =>
          exfalso
          unfold late at hla
          cases hoj : ops[j]? with
          | none => rw [hoj] at hla; cases hla
          | some oj =>
            rw [hoj] at hla
            obtain ⟨e', he', hb', hon⟩ := edge_spec hla
            have := hinv.closed j oj hoj hLj e' he' hb'
            rw [hon] at this
            simp [Array.getD_eq_getD_getElem?, hil, hLf] at this
    have hρ : ∀ t j, t ∈ o.looksAt ops → writer ops t = some j → late ops i j = false → listed.getD j false = true ∧ a.eval (.tmp t) = vals j := by
      intro t j ht hw hla
      obtain ⟨he, hone⟩ := G.looks t j ht hw hla
      obtain ⟨e, hea, heb, hej⟩ := edge_spec he
      have hLj : listed.getD j false = true := hej ▸ hpre e hea heb
      obtain ⟨hjn, hjd⟩ := writer_some hw
      have htl : t < a0.tmps.size := by
        cases hoj : ops[j]? with
        | none => rw [hoj] at hjd; cases hjd
        | some oj => rw [hoj] at hjd; exact hfits j oj t hoj hjd
      refine ⟨hLj, ?_⟩
      rw [hinv.act]
      exact read_frame (L := fun j => listed.getD j false) hw hLj htl
    have hO := howe i o ho a.eval Os w hsees
    unfold wpOp
    simp only [ho]
    rw [wanted_eq]
    split
    · rename_i hw
      rw [if_pos hw] at hO
      refine .inl (OpOk.wp hO fun v w' hpost => ?_)
      obtain ⟨Os', ρs', h⟩ := hinv.step hgood hlast hF ho hL hpre hρ hpost
      exact ih _ _ _ _ _ _ h hcount
    · rename_i hw
      rw [if_neg hw] at hO
      obtain ⟨Os', ρs', h⟩ := hinv.step (v := undef) (w' := w) hgood hlast hF ho hL hpre hρ ⟨fun _ => False, hO, ⟨rfl, rfl, rfl⟩, Nat.le_refl _, fun _ _ _ _ => rfl, fun _ h => h.elim⟩
      exact ih _ _ _ _ _ _ h hcount

/-- The region. -/
theorem region (S : Nat → Spec) (F : Nat → Prop) {id : Nat} {a0 : Act} {w : World} (hm : P.follows .mixedOrders = true) (hgood : good ops (fun i => (S i).takes) = true) (hlast : ∀ i, i < ops.size → Lasts F (S i) w.drew) (hF : Apart ops S F w.drew)
    (hfits : (ops.all fun o => match o.dst with | some d => decide (d < a0.tmps.size) | none => true) = true)
    (howe : ∀ i o, ops[i]? = some o → Owes P ops S F w.drew a0 i o)
    (hfin : ∀ (vals : Nat → Value) (Os : Nat → Nat → Prop) (ρs : Nat → Operand → Value) (w' : World), Sc.Keep F w.drew w' → (∀ j, j < ops.size → (∀ k, k < ops.size → j ∉ (S k).takes) → (S j).know (ρs j) (vals j) (Os j) w') →
      (∀ i o t j, ops[i]? = some o → t ∈ o.looksAt ops → writer ops t = some j → late ops i j = false → ρs i (.tmp t) = vals j) →
      (∀ i j, i < ops.size → j < ops.size → i ≠ j → (∀ k, k < ops.size → i ∉ (S k).takes) → (∀ k, k < ops.size → j ∉ (S k).takes) → ∀ b, Os i b → ¬ Os j b) →
      (∀ j, j < ops.size → (∀ k, k < ops.size → j ∉ (S k).takes) → ∀ b, Os j b → w.drew.heap.size ≤ b ∨ F b) →
      Q .normal (putAll ops.toList 0 a0 vals) w') : (Code.region id ops true).wp P Q a0 w := by
  refine wp_region_any hm ?_
  refine any_sound (S := S) (F := F) (w0 := w.drew) (a0 := a0) hgood hlast hF ?_ howe hfin ops.size _ a0 w.drew (fun _ => undef) (fun _ _ => False) (fun _ _ => undef) ?_ ?_
  · intro j oj d hoj hd
    have := (Array.all_eq_true_iff_forall_mem.1 hfits) oj (Array.mem_of_getElem? hoj)
    simpa [hd] using this
  · have hfalse : ∀ j, (Array.replicate ops.size false).getD j false = false := by
      intro j
      simp only [Array.getD_eq_getD_getElem?, Array.getElem?_replicate]
      split <;> rfl
    refine ⟨by simp, ?_, Sc.Keep.refl _ _, fun k o _ hk => ?_, fun j _ hj => ?_, fun i o t j _ hi => ?_, fun i j _ _ _ hi => ?_, fun j _ hj => ?_, fun _ _ _ _ _ => rfl⟩
    · obtain ⟨tm, df⟩ := a0
      simp only [Act.mk.injEq, and_true]
      apply Array.ext_getElem?
      intro t
      simp only [frame, Array.getElem?_mapIdx, hfalse]
      cases tm[t]? with
      | none => rfl
      | some x => cases hj : writer ops t <;> simp
    · rw [hfalse] at hk; cases hk
    · rw [hfalse] at hj; cases hj
    · rw [hfalse] at hi; cases hi
    · rw [hfalse] at hi; cases hi
    · rw [hfalse] at hj; cases hj
  · exact Nat.le_trans Array.count_le_size (by simp)

theorem Sees.old' {i : Nat} {o : Oper} {ρ : Operand → Value} {Os : Nat → Nat → Prop} {w : World} (h : Sees ops S F w0 a0 i o ρ Os w) (t : Tmp) (hc : ((o.looksAt ops).contains t && oldAt ops i t) = true) : ρ (.tmp t) = a0.tmps.getD t undef := by
  simp only [Bool.and_eq_true, List.contains_iff_mem, oldAt] at hc
  cases hw : writer ops t with
  | none => exact h.old t hc.1 hw
  | some j =>
    have h2 := hc.2
    rw [hw] at h2
    exact h.prior t j hc.1 hw h2
theorem Sees.new' {i : Nat} {o : Oper} {ρ : Operand → Value} {Os : Nat → Nat → Prop} {w : World} (h : Sees ops S F w0 a0 i o ρ Os w) (t : Tmp) (j : Nat) (hc : ((o.looksAt ops).contains t && (writer ops t == some j && !late ops i j)) = true) : ∃ ρ', (S j).know ρ' (ρ (.tmp t)) (Os j) w := by
  simp only [Bool.and_eq_true, List.contains_iff_mem, beq_iff_eq, Bool.not_eq_true'] at hc
  exact h.new t j hc.1 hc.2.1 hc.2.2
/-- .. of a value that hangs on no operand. -/
theorem Sees.val' {i : Nat} {o : Oper} {ρ : Operand → Value} {Os : Nat → Nat → Prop} {w : World} (h : Sees ops S F w0 a0 i o ρ Os w) (t : Tmp) (j : Nat) {x : Value} (hc : ((o.looksAt ops).contains t && (writer ops t == some j && !late ops i j)) = true) (hS : S j = ⟨fun _ v O _ => v = x ∧ ∀ b, ¬ O b, [], fun _ => False⟩) : ρ (.tmp t) = x := by
  obtain ⟨_, h1⟩ := h.new' t j hc
  rw [hS] at h1
  exact h1.1

theorem Sees.early' {i : Nat} {o : Oper} {ρ : Operand → Value} {Os : Nat → Nat → Prop} {w : World} (h : Sees ops S F w0 a0 i o ρ Os w) (k : Nat) (hc : (decide (k < ops.size) && reach ops ops.size k i) = true) : ∀ b, (S k).here b → w.heap[b]? = w0.heap[b]? := by
  simp only [Bool.and_eq_true, decide_eq_true_eq] at hc
  exact h.early k hc.1 hc.2

/-- What an operation made that was carried out before, and that nobody has used up. -/
def stands (ops : Array Oper) (S : Nat → Spec) (i j : Nat) : Bool := decide (j < ops.size) && (!(j == i) && (reach ops ops.size i j && (List.range ops.size).all fun k => !(S k).takes.contains j || (k == i || reach ops ops.size k i)))
theorem Sees.stood' {i : Nat} {o : Oper} {ρ : Operand → Value} {Os : Nat → Nat → Prop} {w : World} (h : Sees ops S F w0 a0 i o ρ Os w) (j : Nat) (hc : stands ops S i j = true) : ∃ ρ' v, (S j).know ρ' v (Os j) w := by
  simp only [stands, Bool.and_eq_true, decide_eq_true_eq, Bool.not_eq_true', beq_eq_false_iff_ne, List.all_eq_true, List.mem_range, Bool.or_eq_true, beq_iff_eq] at hc
  refine h.stood j hc.1 hc.2.1 hc.2.2.1 fun k hk hjk => ?_
  rcases hc.2.2.2 k hk with h1 | h1
  · rw [List.contains_iff_mem.2 hjk] at h1; cases h1
  · exact h1

/-- The debts of a list of operations. -/
def OwesAll (P : Program) (ops : Array Oper) (S : Nat → Spec) (F : Nat → Prop) (w0 : World) (a0 : Act) : Nat → List Oper → Prop
  | _, [] => True
  | k, o :: r => Owes P ops S F w0 a0 k o ∧ OwesAll P ops S F w0 a0 (k + 1) r
theorem OwesAll.get : ∀ (l : List Oper) (k : Nat), OwesAll P ops S F w0 a0 k l → ∀ i o, l[i]? = some o → Owes P ops S F w0 a0 (k + i) o
  | [], _, _, i, o, h => by simp at h
  | x :: r, k, h, 0, o, ho => by
    simp only [List.getElem?_cons_zero, Option.some.injEq] at ho
    subst ho
    exact h.1
  | x :: r, k, h, i + 1, o, ho => by
    have := OwesAll.get r (k + 1) h.2 i o (by simpa using ho)
    rw [show k + (i + 1) = k + 1 + i from by omega]
    exact this

/-- Nobody uses its value up. -/
def free (S : Nat → Spec) (n j : Nat) : Bool := (List.range n).all fun k => !(S k).takes.contains j
theorem free_spec {S : Nat → Spec} {n j : Nat} (h : free S n j = true) : ∀ k, k < n → j ∉ (S k).takes := by
  intro k hk
  simp only [free, List.all_eq_true, List.mem_range] at h
  simpa using h k hk

theorem region_lit (S : Nat → Spec) (F : Nat → Prop) {id : Nat} {a0 : Act} {w : World} {l : List Oper} (hm : P.follows .mixedOrders = true) (hgood : good l.toArray (fun i => (S i).takes) = true)
    (hfits : (l.all fun o => match o.dst with | some d => decide (d < a0.tmps.size) | none => true) = true) (hlast : ∀ i, i < l.length → Lasts F (S i) w.drew) (hF : Apart l.toArray S F w.drew)
    (howe : OwesAll P l.toArray S F w.drew a0 0 l)
    (hfin : ∀ (vals : Nat → Value) (Os : Nat → Nat → Prop) (ρs : Nat → Operand → Value) (w' : World), Sc.Keep F w w' → (∀ j, (decide (j < l.length) && free S l.length j) = true → (S j).know (ρs j) (vals j) (Os j) w') →
      (∀ i t j, (match l[i]? with | some o => (o.looksAt l.toArray).contains t && (writer l.toArray t == some j && !late l.toArray i j) | none => false) = true → ρs i (.tmp t) = vals j) →
      (∀ i j, (decide (i < l.length) && decide (j < l.length) && decide (i ≠ j) && free S l.length i && free S l.length j) = true → ∀ b, Os i b → ¬ Os j b) →
      (∀ j, (decide (j < l.length) && free S l.length j) = true → ∀ b, Os j b → w.heap.size ≤ b ∨ F b) →
      Q .normal (putAll l 0 a0 vals) w') : (Code.region id l.toArray true).wp P Q a0 w := by
  refine region S F hm hgood (by simpa using hlast) hF (by simpa using hfits) (fun i o ho => ?_) fun vals Os ρs w' hb hk hln ha hbd => ?_
  · have := OwesAll.get l 0 howe i o (by simpa using ho)
    simpa using this
  · have hb' : Sc.Keep F w w' := ⟨hb.os, hb.tape, hb.output, hb.size, hb.block⟩
    simp only [List.size_toArray] at hk ha hbd
    refine hfin vals Os ρs w' hb' (fun j hj => ?_) (fun i t j hi => ?_) (fun i j hij => ?_) (fun j hj => ?_)
    · simp only [Bool.and_eq_true, decide_eq_true_eq] at hj
      exact hk j hj.1 (free_spec hj.2)
    · cases ho : l[i]? with
      | none => rw [ho] at hi; cases hi
      | some o =>
        rw [ho] at hi
        simp only [Bool.and_eq_true, List.contains_iff_mem, beq_iff_eq, Bool.not_eq_true'] at hi
        exact hln i o t j (by simpa using ho) hi.1 hi.2.1 hi.2.2
    · simp only [Bool.and_eq_true, decide_eq_true_eq] at hij
      obtain ⟨⟨⟨⟨h1, h2⟩, h3⟩, h4⟩, h5⟩ := hij
      exact ha i j h1 h2 h3 (free_spec h4) (free_spec h5)
    · simp only [Bool.and_eq_true, decide_eq_true_eq] at hj
      exact hbd j hj.1 (free_spec hj.2)

/-- A value that is known. -/
def val (x : Value) : Spec := ⟨fun _ v O _ => v = x ∧ ∀ b, ¬ O b, [], fun _ => False⟩
/-- Nothing is known, nor wanted. -/
def idle : Spec := ⟨fun _ _ O _ => ∀ b, ¬ O b, [], fun _ => False⟩
theorem lasts_val {F : Nat → Prop} (x : Value) : Lasts F (val x) w0 := ⟨fun _ _ _ _ h b hb => absurd hb (h.2 b), fun _ _ _ _ _ h _ _ _ _ => h⟩
theorem lasts_idle {F : Nat → Prop} : Lasts F idle w0 := ⟨fun _ _ _ _ h b hb => absurd hb (h b), fun _ _ _ _ _ h _ _ _ _ => h⟩

/-- What an operation owes that writes nothing and whose value is known. -/
theorem post_val {ρ : Operand → Value} {Os : Nat → Nat → Prop} {i : Nat} {w : World} {v x : Value} (hS : S i = val x) (hk : v = x) : Post S Os i ρ w v w :=
  ⟨fun _ => False, by rw [hS]; exact ⟨hk, fun _ h => h⟩, ⟨rfl, rfl, rfl⟩, Nat.le_refl _, fun _ _ _ _ => rfl, fun _ h => h.elim⟩
/-- .. that may lay new memory. -/
theorem post_vals {ρ : Operand → Value} {Os : Nat → Nat → Prop} {i : Nat} {w w' : World} {v x : Value} (hS : S i = val x) (hk : v = x) (hb : Below w.heap.size w w') : Post S Os i ρ w v w' :=
  ⟨fun _ => False, by rw [hS]; exact ⟨hk, fun _ h => h⟩, ⟨hb.os, hb.tape, hb.output⟩, hb.size, fun b hlt _ _ => hb.block b hlt, fun _ h => h.elim⟩
/-- .. that lays new memory, which its value owns. -/
theorem post_new {ρ : Operand → Value} {Os : Nat → Nat → Prop} {i : Nat} {w w' : World} {v : Value} {O : Nat → Prop} (hk : (S i).know ρ v O w') (h : Below w.heap.size w w') (hO : ∀ b, O b → w.heap.size ≤ b) : Post S Os i ρ w v w' :=
  ⟨O, hk, ⟨h.os, h.tape, h.output⟩, h.size, fun b hlt _ _ => h.block b hlt, fun b hb => .inr (.inl (hO b hb))⟩
/-- .. that turns just what it takes up. -/
theorem post_turn {ρ : Operand → Value} {Os : Nat → Nat → Prop} {i : Nat} {w w' : World} {v : Value} {O : Nat → Prop} (hk : (S i).know ρ v O w') (h : Sc.Keep (S i).here w w') (hO : ∀ b, O b → (S i).here b ∨ w.heap.size ≤ b) : Post S Os i ρ w v w' :=
  ⟨O, hk, ⟨h.os, h.tape, h.output⟩, h.size, fun b hlt _ hne => h.block b hlt hne, fun b hb => .inr ((hO b hb).symm)⟩

theorem owes_plain {i : Nat} {o : Oper} (hg : o.guard = none) (h : ∀ ρ Os w, Sees ops S F w0 a0 i o ρ Os w → Sc.Keep F w0 w → (∀ c, ρ (.const c) = c) → OpOk P o ρ w (Post S Os i ρ w)) : Owes P ops S F w0 a0 i o := by
  intro ρ Os w hs
  have : wantR ops ρ o = true := by unfold wantR; rw [hg]
  rw [if_pos this]
  exact h ρ Os w hs hs.keep hs.const
end
end Go.Proofs.YtnbhneeohkfocaaDoor.Ord
