/- A region that draws its order, met operation by operation: of each is said what is known of its value in every later world, which block it owns, and whose values it uses up; then whatever order is drawn, all of it holds behind the region. No program in sight. -/
import Derived.Test.YtnbhneeohkfocaaDoorTo01
import Derived.Still
namespace Go.Proofs.YtnbhneeohkfocaaDoor.Any
open Go Go.RowKit

/-- The lesser of two numbers, as the builtin tells it. -/
def imin (p q : Int) : Int := if q < p then q else p
theorem imin_le (p q : Int) : imin p q ≤ p ∧ imin p q ≤ q := by unfold imin; split <;> omega
theorem imin_cases (p q : Int) : imin p q = p ∨ imin p q = q := by unfold imin; split <;> simp

/-- What is known of an operation's value (until it is used up); the block that the value owns; the operations whose values it uses up. -/
structure Spec where
  know : Value → World → Prop
  own : Value → Option Nat
  takes : List Nat

/-- A value that is known. -/
def val (x : Value) : Spec := ⟨fun v _ => v = x, fun _ => none, []⟩
/-- Of the value nothing is known, nor wanted. -/
def idle : Spec := ⟨fun _ _ => True, fun _ => none, []⟩

def edge (o : Oper) (j : Nat) : Bool := o.after.any fun e => Region.binds .any e && e.on == j
/-- Which operation writes a slot. -/
def writer (ops : Array Oper) (t : Tmp) : Option Nat := (List.range ops.size).find? fun j => ((ops[j]?).bind (·.dst)) == some t

/-- Does operation j wait for operation i? -/
def late (ops : Array Oper) (i j : Nat) : Bool := match ops[j]? with | some oj => edge oj i | none => false
def goodAt (ops : Array Oper) (takes : Nat → List Nat) (i : Nat) (o : Oper) : Bool :=
  (o.after.all fun e => !Region.binds .any e || decide (e.on < i)) &&
  ((match o.dst with | some d => writer ops d == some i | none => true) &&
  (((o.looksAt ops).all fun t => match writer ops t with
    | none => true
    | some j => late ops i j || (edge o j && (List.range ops.size).all fun k => k == i || (!(takes k).contains j || (match ops[k]? with | some ok => edge ok i | none => true)))) &&
  ((takes i).all fun j => edge o j && (List.range ops.size).all fun k => k == i || !(takes k).contains j)))

def good (ops : Array Oper) (takes : Nat → List Nat) : Bool :=
  Region.noSelect ops && (List.range ops.size).all fun i => match ops[i]? with | some o => goodAt ops takes i o | none => true

/-- An operation run, its operands read by ρ. -/
@[go_sem] def OpOk (P : Program) (o : Oper) (ρ : Operand → Value) (w : World) (R : Value → World → Prop) : Prop :=
  match (execOp ρ o).run P w with
  | .ok (.value v) w' => R v w'
  | .ok .skip w' => R undef w'
  | .ok (.enter f args) w' => Calls P f args w' fun e w'' => ∃ v, e = .returned v ∧ R v w''
  | _ => False

def wantR (ops : Array Oper) (ρ : Operand → Value) (o : Oper) : Bool :=
  match o.guard with
  | none => true
  | some (j, want) => match (ops[j]?).bind (·.dst) with
    | some d => (match ρ (.tmp d) with | .bool b => b == want | _ => false)
    | none => false

section
variable {P : Program} {ops : Array Oper} {Q : Exit → Act → World → Prop}

theorem OpOk.wp {o : Oper} {a : Act} {w : World} {R : Value → World → Prop} {K : Act → World → Prop} (h : OpOk P o a.eval w R) (hK : ∀ v w', R v w' → K (a.put o.dst v) w') : o.wp P a w K Q := by
  unfold OpOk at h
  unfold Oper.wp
  generalize (execOp a.eval o).run P w = r at *
  cases r with
  | ok n w' =>
    cases n <;> simp only [Oper.upon] at h ⊢
    case value v => exact hK _ _ h
    case skip => exact hK _ _ h
    case enter f args =>
      refine h.mono fun e w'' he => ?_
      obtain ⟨v, rfl, hv⟩ := he
      exact hK _ _ hv
  | halt x w' => exact h.elim

theorem wanted_eq (a : Act) (o : Oper) : Region.wanted o (yielded ops a.tmps) = wantR ops a.eval o := by
  unfold Region.wanted wantR
  cases o.guard with
  | none => rfl
  | some g =>
    obtain ⟨j, want⟩ := g
    simp only [yielded]
    cases hd : (ops[j]?).bind (·.dst) with
    | none => simp
    | some d =>
      simp only [Option.bind_some, Act.eval, Array.getD_eq_getD_getElem?]
      cases ht : a.tmps[d]? with
      | none => rfl
      | some v => cases v <;> rfl

/-- The frame: the slots of the operations that were carried out hold their values. -/
def frame (ops : Array Oper) (base : Array Value) (L : Nat → Bool) (vals : Nat → Value) : Array Value :=
  base.mapIdx fun t x => match writer ops t with | some j => if L j then vals j else x | none => x

theorem writer_some {t : Tmp} {j : Nat} (h : writer ops t = some j) : j < ops.size ∧ (ops[j]?).bind (·.dst) = some t := by
  have h1 := List.find?_some h
  have h2 := List.mem_of_find?_eq_some h
  exact ⟨List.mem_range.1 h2, by simpa using h1⟩

theorem frame_put {base : Array Value} {L : Nat → Bool} {vals : Nat → Value} {i : Nat} {o : Oper} {v : Value} (ho : ops[i]? = some o)
    (hd : ∀ d, o.dst = some d → writer ops d = some i) (df : List Deferred) :
    (⟨frame ops base L vals, df⟩ : Act).put o.dst v = ⟨frame ops base (fun j => if j = i then true else L j) (fun j => if j = i then v else vals j), df⟩ := by
  have hw : ∀ t, writer ops t = some i → o.dst = some t := fun t h => by
    have := (writer_some h).2
    rw [ho] at this
    simpa using this
  cases hdst : o.dst with
  | none =>
    simp only [Act.put, Act.mk.injEq, and_true]
    apply Array.ext_getElem?
    intro t
    simp only [frame, Array.getElem?_mapIdx]
    congr 1
    funext x
    cases hj : writer ops t with
    | none => rfl
    | some j =>
      by_cases hji : j = i
      · subst hji; rw [hw t hj] at hdst; cases hdst
      · simp [hji]
  | some d =>
    simp only [Act.put, Act.mk.injEq, and_true]
    apply Array.ext_getElem?
    intro t
    rw [Array.getElem?_setIfInBounds]
    by_cases htd : d = t
    · subst htd
      rw [if_pos rfl]
      simp only [frame, Array.getElem?_mapIdx, Array.size_mapIdx, hd d hdst]
      by_cases hlt : d < base.size
      · simp [hlt]
      · simp [hlt]
    · rw [if_neg htd]
      simp only [frame, Array.getElem?_mapIdx]
      congr 1
      funext x
      cases hj : writer ops t with
      | none => rfl
      | some j =>
        by_cases hji : j = i
        · subst hji; rw [hw t hj] at hdst; exact absurd (Option.some.inj hdst).symm htd
        · simp [hji]

/-- All operations' values put into their slots. -/
@[go_sem] def putAll : List Oper → Nat → Act → (Nat → Value) → Act
  | [], _, a, _ => a
  | o :: r, i, a, vals => putAll r (i + 1) (a.put o.dst (vals i)) vals

theorem putAll_frame {base : Array Value} (hd : ∀ i o d, ops[i]? = some o → o.dst = some d → writer ops d = some i) (df : List Deferred) (vals : Nat → Value) :
    ∀ (l : List Oper) (k : Nat), (∀ j, l[j]? = ops[k + j]?) → putAll l k ⟨frame ops base (fun j => decide (j < k)) vals, df⟩ vals = ⟨frame ops base (fun j => decide (j < k + l.length)) vals, df⟩
  | [], k, _ => by simp [putAll]
  | o :: l, k, h => by
    have h0 : ops[k]? = some o := by simpa using (h 0).symm
    have ih := putAll_frame (base := base) hd df vals l (k + 1) (fun j => by have := h (j + 1); simpa [Nat.add_assoc, Nat.add_comm 1 j] using this)
    simp only [putAll]
    rw [frame_put h0 (fun d hdd => hd k o d h0 hdd)]
    have e1 : (fun j => if j = k then true else decide (j < k)) = fun j => decide (j < k + 1) := by
      funext j
      by_cases hj : j = k
      · subst hj; simp
      · simp only [hj, if_false]; congr 1; apply propext; omega
    have e2 : (fun j => if j = k then vals k else vals j) = vals := by
      funext j
      split
      · subst_vars; rfl
      · rfl
    rw [e1, e2, ih]
    congr 3
    funext j
    congr 1
    apply propext
    simp only [List.length_cons]
    omega

/-- What an operation owes behind its run. -/
def Post (ops : Array Oper) (S : Nat → Spec) (w0 : World) (i : Nat) (ρ : Operand → Value) (w : World) (v : Value) (w' : World) : Prop :=
  (S i).know v w' ∧ Below w0.heap.size w0 w' ∧ w.heap.size ≤ w'.heap.size ∧
  (∀ b, b < w.heap.size → (∀ j, j ∈ (S i).takes → ∀ t, (ops[j]?).bind (·.dst) = some t → (S j).own (ρ (.tmp t)) ≠ some b) → w'.heap[b]? = w.heap[b]?) ∧
  (∀ b, (S i).own v = some b → (∃ j t, j ∈ (S i).takes ∧ (ops[j]?).bind (·.dst) = some t ∧ (S j).own (ρ (.tmp t)) = some b) ∨ w.heap.size ≤ b)

/-- What an operation may use. -/
structure Sees (ops : Array Oper) (S : Nat → Spec) (w0 : World) (a0 : Act) (i : Nat) (o : Oper) (ρ : Operand → Value) (w : World) : Prop where
  below : Below w0.heap.size w0 w
  const : ∀ c, ρ (.const c) = c
  glob : ∀ g, ρ (.global g) = .pointer (some ⟨g, 0, none⟩)
  func : ∀ f, ρ (.func f) = .func (.func f) #[] #[]
  old : ∀ t, t ∈ o.looksAt ops → writer ops t = none → ρ (.tmp t) = a0.tmps.getD t undef
  new : ∀ t j, t ∈ o.looksAt ops → writer ops t = some j → late ops i j = false → (S j).know (ρ (.tmp t)) w
  prior : ∀ t j, t ∈ o.looksAt ops → writer ops t = some j → late ops i j = true → ρ (.tmp t) = a0.tmps.getD t undef

/-- One operation's debt. -/
def Owes (P : Program) (ops : Array Oper) (S : Nat → Spec) (w0 : World) (a0 : Act) (i : Nat) (o : Oper) : Prop :=
  ∀ (ρ : Operand → Value) (w : World), Sees ops S w0 a0 i o ρ w →
    if wantR ops ρ o then OpOk P o ρ w (Post ops S w0 i ρ w) else (S i).know undef w ∧ (S i).own undef = none

/-- The facts that must outlast changes elsewhere. -/
structure Lasts (s : Spec) (w0 : World) : Prop where
  range : ∀ v w, s.know v w → ∀ b, s.own v = some b → b < w.heap.size
  keep : ∀ v w w', s.know v w → Below w0.heap.size w0 w → Below w0.heap.size w0 w' → w.heap.size ≤ w'.heap.size → (∀ b, s.own v = some b → w'.heap[b]? = w.heap[b]?) → s.know v w'

structure Inv (ops : Array Oper) (S : Nat → Spec) (w0 : World) (a0 : Act) (listed : Array Bool) (a : Act) (w : World) (vals : Nat → Value) : Prop where
  size : listed.size = ops.size
  act : a = ⟨frame ops a0.tmps (fun j => listed.getD j false) vals, a0.defers⟩
  below : Below w0.heap.size w0 w
  closed : ∀ (k : Nat) (o : Oper), ops[k]? = some o → listed.getD k false = true → ∀ e ∈ o.after, Region.binds .any e = true → listed.getD e.on false = true
  know : ∀ j, j < ops.size → listed.getD j false = true → (∀ k, k < ops.size → j ∈ (S k).takes → listed.getD k false = false) → (S j).know (vals j) w
  apart : ∀ i j, i < ops.size → j < ops.size → i ≠ j → listed.getD i false = true → listed.getD j false = true →
    (∀ k, k < ops.size → i ∈ (S k).takes → listed.getD k false = false) → (∀ k, k < ops.size → j ∈ (S k).takes → listed.getD k false = false) →
    ∀ b, (S i).own (vals i) = some b → (S j).own (vals j) ≠ some b


variable {S : Nat → Spec} {w0 : World} {a0 : Act}

theorem good_spec {takes : Nat → List Nat} (h : good ops takes = true) : Region.noSelect ops = true ∧ ∀ i o, ops[i]? = some o → goodAt ops takes i o = true := by
  simp only [good, Bool.and_eq_true, List.all_eq_true, List.mem_range] at h
  refine ⟨h.1, fun i o ho => ?_⟩
  have := h.2 i (Array.getElem?_eq_some_iff.1 ho).1
  simpa [ho] using this

theorem edge_spec {o : Oper} {j : Nat} (h : edge o j = true) : ∃ e ∈ o.after, Region.binds .any e = true ∧ e.on = j := by
  simp only [edge, Array.any_eq_true] at h
  obtain ⟨k, hk, hb⟩ := h
  simp only [Bool.and_eq_true, beq_iff_eq] at hb
  exact ⟨_, Array.getElem_mem hk, hb.1, hb.2⟩

structure GoodAt (ops : Array Oper) (takes : Nat → List Nat) (i : Nat) (o : Oper) : Prop where
  early : ∀ e ∈ o.after, Region.binds .any e = true → e.on < i
  dst : ∀ d, o.dst = some d → writer ops d = some i
  looks : ∀ t j, t ∈ o.looksAt ops → writer ops t = some j → late ops i j = false → edge o j = true ∧ ∀ k ok, k ≠ i → ops[k]? = some ok → j ∈ takes k → edge ok i = true
  takes : ∀ j, j ∈ takes i → edge o j = true ∧ ∀ k, k < ops.size → k ≠ i → j ∉ takes k

theorem goodAt_spec {takes : Nat → List Nat} {i : Nat} {o : Oper} (h : goodAt ops takes i o = true) : GoodAt ops takes i o := by
  simp only [goodAt, Bool.and_eq_true] at h
  obtain ⟨h1, h2, h3, h4⟩ := h
  refine ⟨fun e he hb => ?_, fun d hd => ?_, fun t j ht hj hla => ?_, fun j hj => ?_⟩
  · have := (Array.all_eq_true_iff_forall_mem.1 h1) e he
    simpa [hb] using this
  · simpa [hd] using h2
  · have := List.all_eq_true.1 h3 t ht
    simp only [hj, hla, Bool.false_or, Bool.and_eq_true, List.all_eq_true, List.mem_range] at this
    refine ⟨this.1, fun k ok hk hok hjk => ?_⟩
    have h5 := this.2 k (Array.getElem?_eq_some_iff.1 hok).1
    simp [hk, hok, hjk] at h5
    exact h5
  · have := List.all_eq_true.1 h4 j hj
    simp only [Bool.and_eq_true, List.all_eq_true, List.mem_range] at this
    refine ⟨this.1, fun k hk hki => ?_⟩
    have h5 := this.2 k hk
    simpa [hki] using h5

theorem getD_set {listed : Array Bool} {i : Nat} (hi : i < listed.size) (j : Nat) : (listed.setIfInBounds i true).getD j false = if j = i then true else listed.getD j false := by
  simp only [Array.getD_eq_getD_getElem?, Array.getElem?_setIfInBounds]
  by_cases h : i = j
  · subst h; simp [hi]
  · rw [if_neg h, if_neg (fun e => h e.symm)]

theorem noSelect_at (h : Region.noSelect ops = true) {i : Nat} {o : Oper} (ho : ops[i]? = some o) : ∀ cs b, o.op ≠ .select cs b :=
  fun cs b => Region.noSelect_spec h i o cs b ho


theorem read_frame {base : Array Value} {L : Nat → Bool} {vals : Nat → Value} {df : List Deferred} {t : Tmp} {j : Nat} (h : writer ops t = some j) (hL : L j = true) (ht : t < base.size) :
    (⟨frame ops base L vals, df⟩ : Act).eval (.tmp t) = vals j := by
  simp [Act.eval, frame, ht, h, hL]
theorem read_late {base : Array Value} {L : Nat → Bool} {vals : Nat → Value} {df : List Deferred} {t : Tmp} {j : Nat} (h : writer ops t = some j) (hL : L j = false) :
    (⟨frame ops base L vals, df⟩ : Act).eval (.tmp t) = base.getD t undef := by
  simp only [Act.eval, frame, Array.getD_eq_getD_getElem?, Array.getElem?_mapIdx, h, hL]
  cases base[t]? <;> rfl
theorem read_old {base : Array Value} {L : Nat → Bool} {vals : Nat → Value} {df : List Deferred} {t : Tmp} (h : writer ops t = none) :
    (⟨frame ops base L vals, df⟩ : Act).eval (.tmp t) = base.getD t undef := by
  simp only [Act.eval, frame, Array.getD_eq_getD_getElem?, Array.getElem?_mapIdx, h]
  cases base[t]? <;> rfl

/-- A ready operation's step keeps all that is known. -/
theorem Inv.step {listed : Array Bool} {a : Act} {w w' : World} {vals : Nat → Value} (hgood : good ops (fun i => (S i).takes) = true) (hlast : ∀ i, i < ops.size → Lasts (S i) w0)
    (hinv : Inv ops S w0 a0 listed a w vals) {i : Nat} {o : Oper} {v : Value} (hfits : ∀ (j : Nat) (oj : Oper) (d : Tmp), ops[j]? = some oj → oj.dst = some d → d < a0.tmps.size) (ho : ops[i]? = some o) (hL : listed.getD i true = false) (hpre : ∀ e ∈ o.after, Region.binds .any e = true → listed.getD e.on false = true)
    (hpost : Post ops S w0 i a.eval w v w') : Inv ops S w0 a0 (listed.setIfInBounds i true) (a.put o.dst v) w' (fun j => if j = i then v else vals j) := by
  have hin : i < ops.size := (Array.getElem?_eq_some_iff.1 ho).1
  have hil : i < listed.size := by rw [hinv.size]; exact hin
  have hLf : listed.getD i false = false := by
    simp only [Array.getD_eq_getD_getElem?, Array.getElem?_eq_getElem hil] at hL ⊢
    exact hL
  obtain ⟨hsel, hat⟩ := good_spec hgood
  have G := goodAt_spec (hat i o ho)
  obtain ⟨p1, p2, p3, p4, p5⟩ := hpost
  have hset := fun j => getD_set (listed := listed) hil j
  -- the values that are used up: alive till now
  have htake : ∀ j t, j ∈ (S i).takes → (ops[j]?).bind (·.dst) = some t → j < ops.size ∧ listed.getD j false = true ∧ (∀ k, k < ops.size → j ∈ (S k).takes → listed.getD k false = false) ∧ a.eval (.tmp t) = vals j := by
    intro j t hj ht
    obtain ⟨he, hone⟩ := G.takes j hj
    obtain ⟨e, hea, heb, hej⟩ := edge_spec he
    have hLj : listed.getD j false = true := hej ▸ hpre e hea heb
    cases hoj : ops[j]? with
    | none => rw [hoj] at ht; cases ht
    | some oj =>
      rw [hoj] at ht
      have hwj := (goodAt_spec (hat j oj hoj)).dst t ht
      refine ⟨(Array.getElem?_eq_some_iff.1 hoj).1, hLj, fun k hk hjk => ?_, ?_⟩
      · by_cases hki : k = i
        · subst hki; exact hLf
        · exact absurd hjk (hone k hk hki)
      · rw [hinv.act]
        exact read_frame hwj hLj (hfits j oj t hoj ht)
  -- what was alive and still is, was not used up now
  have hlive : ∀ j, (∀ k, k < ops.size → j ∈ (S k).takes → (listed.setIfInBounds i true).getD k false = false) → j ∉ (S i).takes ∧ (∀ k, k < ops.size → j ∈ (S k).takes → listed.getD k false = false) := by
    intro j h
    refine ⟨fun hji => ?_, fun k hk hjk => ?_⟩
    · have := h i hin hji
      rw [hset, if_pos rfl] at this
      cases this
    · have := h k hk hjk
      rw [hset] at this
      split at this
      · cases this
      · exact this
  refine ⟨by simp [hinv.size], ?_, p2, ?_, ?_, ?_⟩
  · rw [hinv.act, frame_put ho G.dst]
    congr 2
    funext j
    rw [hset]
  · intro k ok hok hk e he hb
    rw [hset] at hk ⊢
    split
    · rfl
    · by_cases hki : k = i
      · subst hki
        rw [ho] at hok
        obtain rfl := Option.some.inj hok
        exact hpre e he hb
      · rw [if_neg hki] at hk
        exact hinv.closed k ok hok hk e he hb
  · intro j hj hLj hfree
    obtain ⟨hnt, hfree'⟩ := hlive j hfree
    by_cases hji : j = i
    · subst hji; simp only [if_pos]; exact p1
    · simp only [if_neg hji]
      rw [hset, if_neg hji] at hLj
      have hk := hinv.know j hj hLj hfree'
      refine (hlast j hj).keep _ _ _ hk hinv.below p2 p3 fun b hb => ?_
      refine p4 b ((hlast j hj).range _ _ hk b hb) fun j' hj' t ht hb' => ?_
      obtain ⟨q1, q2, q3, q4⟩ := htake j' t hj' ht
      rw [q4] at hb'
      have hne : j ≠ j' := fun e => hnt (e ▸ hj')
      exact hinv.apart j j' hj q1 hne hLj q2 hfree' q3 b hb hb'
  · intro x y hx hy hxy hLx hLy hfx hfy b hbx hby
    obtain ⟨hnx, hfx'⟩ := hlive x hfx
    obtain ⟨hny, hfy'⟩ := hlive y hfy
    rw [hset] at hLx hLy
    have other : ∀ z, z < ops.size → z ≠ i → listed.getD z false = true → z ∉ (S i).takes → (∀ k, k < ops.size → z ∈ (S k).takes → listed.getD k false = false) → ∀ b, (S i).own v = some b → (S z).own (vals z) ≠ some b := by
      intro z hz hzi hLz hnz hfz b hb hbz
      rcases p5 b hb with ⟨j', t, hj', ht, hb'⟩ | hge
      · obtain ⟨q1, q2, q3, q4⟩ := htake j' t hj' ht
        rw [q4] at hb'
        exact hinv.apart z j' hz q1 (fun e => hnz (e ▸ hj')) hLz q2 hfz q3 b hbz hb'
      · have := (hlast z hz).range _ _ (hinv.know z hz hLz hfz) b hbz
        omega
    by_cases hxi : x = i
    · subst hxi
      have hyi : y ≠ x := fun e => hxy e.symm
      simp only [if_pos] at hbx
      simp only [if_neg hyi] at hby
      rw [if_neg hyi] at hLy
      exact other y hy hyi hLy hny hfy' b hbx hby
    · by_cases hyi : y = i
      · subst hyi
        simp only [if_pos] at hby
        simp only [if_neg hxi] at hbx
        rw [if_neg hxi] at hLx
        exact other x hx hxi hLx hnx hfx' b hby hbx
      · simp only [if_neg hxi] at hbx
        simp only [if_neg hyi] at hby
        rw [if_neg hxi] at hLx
        rw [if_neg hyi] at hLy
        exact hinv.apart x y hx hy hxy hLx hLy hfx' hfy' b hbx hby

theorem any_sound (hgood : good ops (fun i => (S i).takes) = true) (hlast : ∀ i, i < ops.size → Lasts (S i) w0) (hfits : ∀ (j : Nat) (oj : Oper) (d : Tmp), ops[j]? = some oj → oj.dst = some d → d < a0.tmps.size)
    (howe : ∀ i o, ops[i]? = some o → Owes P ops S w0 a0 i o)
    (hfin : ∀ vals w, Below w0.heap.size w0 w → (∀ j, j < ops.size → (∀ k, k < ops.size → j ∉ (S k).takes) → (S j).know (vals j) w) →
      (∀ i j, i < ops.size → j < ops.size → i ≠ j → (∀ k, k < ops.size → i ∉ (S k).takes) → (∀ k, k < ops.size → j ∉ (S k).takes) → ∀ b, (S i).own (vals i) = some b → (S j).own (vals j) ≠ some b) →
      Q .normal (putAll ops.toList 0 a0 vals) w) :
    ∀ (fuel : Nat) (listed : Array Bool) (a : Act) (w : World) (vals : Nat → Value), Inv ops S w0 a0 listed a w vals → listed.count false ≤ fuel → wpAny P .any ops Q fuel listed a w := by
  obtain ⟨hsel, hat⟩ := good_spec hgood
  -- all are listed where none is ready
  have hall : ∀ (listed : Array Bool) (a : Act) (w : World) (vals : Nat → Value), Inv ops S w0 a0 listed a w vals → Region.ready .any ops listed = [] → ∀ i, i < ops.size → listed.getD i false = true := by
    intro listed a w vals hinv hnil i
    induction i using Nat.strongRecOn with
    | _ i ih =>
      intro hi
      cases hc : listed.getD i false with
      | true => rfl
      | false =>
        exfalso
        have hil : i < listed.size := by rw [hinv.size]; exact hi
        have hm : i ∈ Region.ready .any ops listed := by
          rw [mem_ready]
          refine ⟨?_, ops[i], Array.getElem?_eq_getElem hi, fun e he hb => ?_⟩
          · simp only [Array.getD_eq_getD_getElem?, Array.getElem?_eq_getElem hil] at hc ⊢
            exact hc
          · have hlt := (goodAt_spec (hat i _ (Array.getElem?_eq_getElem hi))).early e he hb
            exact ih e.on hlt (by omega)
        rw [hnil] at hm
        cases hm
  have hend : ∀ (listed : Array Bool) (a : Act) (w : World) (vals : Nat → Value), Inv ops S w0 a0 listed a w vals → (∀ i, i < ops.size → listed.getD i false = true) → Q .normal a w := by
    intro listed a w vals hinv hL
    have hp := putAll_frame (ops := ops) (base := a0.tmps) (fun i o d ho hd => (goodAt_spec (hat i o ho)).dst d hd) a0.defers vals ops.toList 0 (by intro j; simp)
    have e0 : (⟨frame ops a0.tmps (fun j => decide (j < 0)) vals, a0.defers⟩ : Act) = a0 := by
      obtain ⟨tm, df⟩ := a0
      simp only [Act.mk.injEq, and_true]
      apply Array.ext_getElem?
      intro t
      simp only [frame, Array.getElem?_mapIdx]
      cases tm[t]? with
      | none => rfl
      | some x => cases hj : writer ops t <;> simp
    rw [e0] at hp
    have e1 : a = putAll ops.toList 0 a0 vals := by
      rw [hp, hinv.act]
      congr 1
      apply Array.ext_getElem?
      intro t
      simp only [frame, Array.getElem?_mapIdx]
      congr 1
      funext x
      cases hj : writer ops t with
      | none => rfl
      | some j =>
        have hlt := (writer_some hj).1
        simp [hL j hlt, hlt]
    rw [e1]
    refine hfin vals w hinv.below (fun j hj hfree => hinv.know j hj (hL j hj) fun k hk hjk => absurd hjk (hfree k hk)) ?_
    intro i j hi hj hij hfi hfj
    exact hinv.apart i j hi hj hij (hL i hi) (hL j hj) (fun k hk h => absurd h (hfi k hk)) (fun k hk h => absurd h (hfj k hk))
  intro fuel
  induction fuel with
  | zero =>
    intro listed a w vals hinv hc
    have hL : ∀ i, i < ops.size → listed.getD i false = true := by
      intro i hi
      have hil : i < listed.size := by rw [hinv.size]; exact hi
      cases hb : listed.getD i false with
      | true => rfl
      | false =>
        exfalso
        have h1 : listed[i] = false := by simpa [Array.getD_eq_getD_getElem?, hil] using hb
        have h2 : false ∈ listed := h1 ▸ Array.getElem_mem hil
        have h3 := Array.count_pos_iff.2 h2
        omega
    refine ⟨?_, hend listed a w vals hinv hL⟩
    cases hr : Region.ready .any ops listed with
    | nil => rfl
    | cons i rest =>
      exfalso
      have hm : i ∈ Region.ready .any ops listed := by rw [hr]; exact List.mem_cons_self
      rw [mem_ready] at hm
      obtain ⟨h1, o, ho, _⟩ := hm
      have hi := (Array.getElem?_eq_some_iff.1 ho).1
      have hil : i < listed.size := by rw [hinv.size]; exact hi
      have h2 := hL i hi
      simp only [Array.getD_eq_getD_getElem?, Array.getElem?_eq_getElem hil, Option.getD_some] at h1 h2
      rw [h1] at h2
      cases h2
  | succ fuel ih =>
    intro listed a w vals hinv hc
    refine ⟨fun hnil => hend listed a w vals hinv (hall listed a w vals hinv hnil), fun i hi => ?_⟩
    rw [mem_ready] at hi
    obtain ⟨hL, o, ho, hpre⟩ := hi
    have hin := (Array.getElem?_eq_some_iff.1 ho).1
    have hil : i < listed.size := by rw [hinv.size]; exact hin
    have hLf : listed[i] = false := by simpa [Array.getD_eq_getD_getElem?, hil] using hL
    have hcount : (listed.setIfInBounds i true).count false ≤ fuel := by
      rw [Array.setIfInBounds_def, dif_pos hil, Array.count_set, hLf]
      have h3 : 0 < listed.count false := Array.count_pos_iff.2 (hLf ▸ Array.getElem_mem hil)
      simp
      omega
    have G := goodAt_spec (hat i o ho)
    have hsees : Sees ops S w0 a0 i o a.eval w := by
      refine ⟨hinv.below, fun _ => rfl, fun _ => rfl, fun _ => rfl, fun t _ hw => ?_, fun t j ht hw hla => ?_, fun t j _ hw hla => ?_⟩
      · rw [hinv.act]; exact read_old hw
      · obtain ⟨he, hone⟩ := G.looks t j ht hw hla
        obtain ⟨e, hea, heb, hej⟩ := edge_spec he
        have hLj : listed.getD j false = true := hej ▸ hpre e hea heb
        obtain ⟨hjn, hjd⟩ := writer_some hw
        have htl : t < a0.tmps.size := by
          cases hoj : ops[j]? with
          | none => rw [hoj] at hjd; cases hjd
          | some oj => rw [hoj] at hjd; exact hfits j oj t hoj hjd
        have hr : a.eval (.tmp t) = vals j := by
          rw [hinv.act]
          exact read_frame (L := fun j => listed.getD j false) hw hLj htl
        rw [hr]
        refine hinv.know j hjn hLj fun k hk hjk => ?_
        by_cases hki : k = i
        · subst hki
          simpa [Array.getD_eq_getD_getElem?, hil] using hL
        · cases hLk : listed.getD k false with
          | false => rfl
          | true =>
            exfalso
            have hek := hone k ops[k] hki (Array.getElem?_eq_getElem hk) hjk
            obtain ⟨e', he', hb', hon⟩ := edge_spec hek
            have := hinv.closed k _ (Array.getElem?_eq_getElem hk) hLk e' he' hb'
            rw [hon] at this
            simp [Array.getD_eq_getD_getElem?, hil, hLf] at this
      · rw [hinv.act]
        refine read_late (L := fun j => listed.getD j false) hw ?_
        cases hLj : listed.getD j false with
        | false => rfl
        | true =>
          exfalso
          unfold late at hla
          cases hoj : ops[j]? with
          | none => rw [hoj] at hla; cases hla
          | some oj =>
            rw [hoj] at hla
            obtain ⟨e', he', hb', hon⟩ := edge_spec hla
            have := hinv.closed j oj hoj hLj e' he' hb'
            rw [hon] at this
            simp [Array.getD_eq_getD_getElem?, hil, hLf] at this
    have hO := howe i o ho a.eval w hsees
    unfold wpOp
    simp only [ho]
    rw [wanted_eq]
    split
    · rename_i hw
      rw [if_pos hw] at hO
      refine .inl (OpOk.wp hO fun v w' hpost => ?_)
      exact ih _ _ _ _ (hinv.step hgood hlast hfits ho hL hpre hpost) hcount
    · rename_i hw
      rw [if_neg hw] at hO
      refine ih _ _ _ _ (hinv.step hgood hlast hfits ho hL hpre ⟨hO.1, hinv.below, Nat.le_refl _, fun _ _ _ => rfl, fun b hb => ?_⟩) hcount
      rw [hO.2] at hb
      cases hb

/-- The region. -/
theorem region (S : Nat → Spec) {id : Nat} {a0 : Act} {w : World} (hm : P.follows .mixedOrders = true) (hgood : good ops (fun i => (S i).takes) = true) (hlast : ∀ i, i < ops.size → Lasts (S i) w.drew)
    (hfits : (ops.all fun o => match o.dst with | some d => decide (d < a0.tmps.size) | none => true) = true)
    (howe : ∀ i o, ops[i]? = some o → Owes P ops S w.drew a0 i o)
    (hfin : ∀ vals w', Below w.drew.heap.size w.drew w' → (∀ j, j < ops.size → (∀ k, k < ops.size → j ∉ (S k).takes) → (S j).know (vals j) w') →
      (∀ i j, i < ops.size → j < ops.size → i ≠ j → (∀ k, k < ops.size → i ∉ (S k).takes) → (∀ k, k < ops.size → j ∉ (S k).takes) → ∀ b, (S i).own (vals i) = some b → (S j).own (vals j) ≠ some b) →
      Q .normal (putAll ops.toList 0 a0 vals) w') : (Code.region id ops true).wp P Q a0 w := by
  refine wp_region_any hm ?_
  refine any_sound (S := S) (w0 := w.drew) (a0 := a0) hgood hlast ?_ howe hfin ops.size _ a0 w.drew (fun _ => undef) ?_ ?_
  · intro j oj d hoj hd
    have := (Array.all_eq_true_iff_forall_mem.1 hfits) oj (Array.mem_of_getElem? hoj)
    simpa [hd] using this
  · have hfalse : ∀ j, (Array.replicate ops.size false).getD j false = false := by
      intro j
      simp only [Array.getD_eq_getD_getElem?, Array.getElem?_replicate]
      split <;> rfl
    refine ⟨by simp, ?_, Below.refl _ _, fun k o _ hk => ?_, fun j _ hj => ?_, fun i j _ _ _ hi => ?_⟩
    · obtain ⟨tm, df⟩ := a0
      simp only [Act.mk.injEq, and_true]
      apply Array.ext_getElem?
      intro t
      simp only [frame, Array.getElem?_mapIdx, hfalse]
      cases tm[t]? with
      | none => rfl
      | some x => cases hj : writer ops t <;> simp
    · rw [hfalse] at hk; cases hk
    · rw [hfalse] at hj; cases hj
    · rw [hfalse] at hi; cases hi
  · exact Nat.le_trans Array.count_le_size (by simp)


/-- Does an operation read a slot as it was ahead of the region? -/
def oldAt (ops : Array Oper) (i : Nat) (t : Tmp) : Bool := match writer ops t with | none => true | some j => late ops i j
theorem Sees.old' {i : Nat} {o : Oper} {ρ : Operand → Value} {w : World} (h : Sees ops S w0 a0 i o ρ w) (t : Tmp) (hc : ((o.looksAt ops).contains t && oldAt ops i t) = true) : ρ (.tmp t) = a0.tmps.getD t undef := by
  simp only [Bool.and_eq_true, List.contains_iff_mem, oldAt] at hc
  cases hw : writer ops t with
  | none => exact h.old t hc.1 hw
  | some j =>
    have h2 := hc.2
    rw [hw] at h2
    exact h.prior t j hc.1 hw h2
theorem Sees.new' {i : Nat} {o : Oper} {ρ : Operand → Value} {w : World} (h : Sees ops S w0 a0 i o ρ w) (t : Tmp) (j : Nat) (hc : ((o.looksAt ops).contains t && (writer ops t == some j && !late ops i j)) = true) : (S j).know (ρ (.tmp t)) w := by
  simp only [Bool.and_eq_true, List.contains_iff_mem, beq_iff_eq, Bool.not_eq_true'] at hc
  exact h.new t j hc.1 hc.2.1 hc.2.2

/-- The debts of a list of operations. -/
def OwesAll (P : Program) (ops : Array Oper) (S : Nat → Spec) (w0 : World) (a0 : Act) : Nat → List Oper → Prop
  | _, [] => True
  | k, o :: r => Owes P ops S w0 a0 k o ∧ OwesAll P ops S w0 a0 (k + 1) r
theorem OwesAll.get : ∀ (l : List Oper) (k : Nat), OwesAll P ops S w0 a0 k l → ∀ i o, l[i]? = some o → Owes P ops S w0 a0 (k + i) o
  | [], _, _, i, o, h => by simp at h
  | x :: r, k, h, 0, o, ho => by
    simp only [List.getElem?_cons_zero, Option.some.injEq] at ho
    subst ho
    exact h.1
  | x :: r, k, h, i + 1, o, ho => by
    have := OwesAll.get r (k + 1) h.2 i o (by simpa using ho)
    rw [show k + (i + 1) = k + 1 + i from by omega]
    exact this

/-- Nobody uses its value up. -/
def free (S : Nat → Spec) (n j : Nat) : Bool := (List.range n).all fun k => !(S k).takes.contains j
theorem free_spec {S : Nat → Spec} {n j : Nat} (h : free S n j = true) : ∀ k, k < n → j ∉ (S k).takes := by
  intro k hk
  simp only [free, List.all_eq_true, List.mem_range] at h
  simpa using h k hk

theorem region_lit (S : Nat → Spec) {id : Nat} {a0 : Act} {w : World} {l : List Oper} (hm : P.follows .mixedOrders = true) (hgood : good l.toArray (fun i => (S i).takes) = true)
    (hfits : (l.all fun o => match o.dst with | some d => decide (d < a0.tmps.size) | none => true) = true) (hlast : ∀ i, i < l.length → Lasts (S i) w.drew)
    (howe : OwesAll P l.toArray S w.drew a0 0 l)
    (hfin : ∀ vals w', Below w.heap.size w w' → (∀ j, (decide (j < l.length) && free S l.length j) = true → (S j).know (vals j) w') →
      (∀ i j, (decide (i < l.length) && decide (j < l.length) && decide (i ≠ j) && free S l.length i && free S l.length j) = true → ∀ b, (S i).own (vals i) = some b → (S j).own (vals j) ≠ some b) →
      Q .normal (putAll l 0 a0 vals) w') : (Code.region id l.toArray true).wp P Q a0 w := by
  refine region S hm hgood (by simpa using hlast) (by simpa using hfits) (fun i o ho => ?_) fun vals w' hb hk ha => ?_
  · have := OwesAll.get l 0 howe i o (by simpa using ho)
    simpa using this
  · have hb' : Below w.heap.size w w' := ((Below.refl _ _).drew).trans hb
    simp only [List.size_toArray] at hk ha
    refine hfin vals w' hb' (fun j hj => ?_) (fun i j hij => ?_)
    · simp only [Bool.and_eq_true, decide_eq_true_eq] at hj
      exact hk j hj.1 (free_spec hj.2)
    · simp only [Bool.and_eq_true, decide_eq_true_eq] at hij
      obtain ⟨⟨⟨⟨h1, h2⟩, h3⟩, h4⟩, h5⟩ := hij
      exact ha i j h1 h2 h3 (free_spec h4) (free_spec h5)

theorem lasts_val (x : Value) : Lasts (val x) w0 := ⟨fun _ _ _ _ h => by simp [val] at h, fun _ _ _ h _ _ _ _ => h⟩
theorem lasts_idle : Lasts idle w0 := ⟨fun _ _ _ _ h => by simp [idle] at h, fun _ _ _ _ _ _ _ _ => trivial⟩

/-- A row of the region's own: of type e, each element of so many cells; n elements, these cells; the operations whose values it is made of. -/
def row (B : Nat) (e : TypeId) (size n : Nat) (xs : List Value) (takes : List Nat) : Spec := ⟨fun v w => w.ownsRow B e size v n xs, Value.ownBlock, takes⟩
theorem ownsRow_same {w w' : World} {B : Nat} {e : TypeId} {size n : Nat} {v : Value} {xs : List Value} (h : w.ownsRow B e size v n xs) (hk : ∀ b, v.ownBlock = some b → w'.heap[b]? = w.heap[b]?) : w'.ownsRow B e size v n xs := by
  obtain ⟨h1, h2⟩ := h
  refine ⟨h1, ?_⟩
  rcases h2 with h2 | ⟨g, cap, cur, rfl, hg, hh, r⟩
  · exact .inl h2
  · exact .inr ⟨g, cap, cur, rfl, hg, (hk g rfl).trans hh, r⟩
theorem lasts_row (B : Nat) (e : TypeId) (size n : Nat) (xs : List Value) (takes : List Nat) : Lasts (row B e size n xs takes) w0 :=
  ⟨fun _ _ h b hb => (h.lt b hb).2, fun _ _ _ h _ _ _ hk => ownsRow_same h hk⟩

/-- A new slice that is read alone: its block's cells. -/
def made (e : TypeId) (n : Nat) (cs : Array Value) : Spec := ⟨fun v w => ∃ b, v = .slice (some ⟨b, 0, none⟩) n n ∧ w.heap[b]? = some (.cells cs e (0, 0)), Value.ownBlock, []⟩
theorem lasts_made (e : TypeId) (n : Nat) (cs : Array Value) : Lasts (made e n cs) w0 :=
  ⟨fun v w h b hb => by
    obtain ⟨g, rfl, hg⟩ := h
    obtain rfl : g = b := Option.some.inj hb
    exact (Array.getElem?_eq_some_iff.1 hg).1,
   fun v w w' h _ _ _ hk => by
    obtain ⟨g, rfl, hg⟩ := h
    exact ⟨g, rfl, (hk g rfl).trans hg⟩⟩

/-- What an operation owes that uses nothing up. -/
theorem post_new {i : Nat} {ρ : Operand → Value} {w w' : World} {v : Value} (hw : Below w0.heap.size w0 w) (hk : (S i).know v w') (hb : Below w.heap.size w w') (ho : ∀ b, (S i).own v = some b → w.heap.size ≤ b) :
    Post ops S w0 i ρ w v w' :=
  ⟨hk, hw.trans (hb.mono hw.size), hb.size, fun b hlt _ => hb.block b hlt, fun b h => .inr (ho b h)⟩
/-- What an append owes that uses up one row of the region's own. -/
theorem post_take {i : Nat} {ρ : Operand → Value} {w w' : World} {v v0 : Value} {j : Nat} {t : Tmp} {B : Nat} {e : TypeId} {size n : Nat} {xs : List Value} (hw : Below w0.heap.size w0 w) (hk : (S i).know v w') (hg : w.grownBy w' v0.ownBlock)
    (hS : S i = row B e size n xs [j]) (hSj : ∃ n0 xs0 tk, S j = row B e size n0 xs0 tk) (hd : (ops[j]?).bind (·.dst) = some t) (hv0 : v0 = ρ (.tmp t)) (hB : w0.heap.size ≤ B)
    (hnew : ∀ b, v.ownBlock = some b → v0.ownBlock = some b ∨ w.heap.size ≤ b) (h0 : ∀ b, v0.ownBlock = some b → B ≤ b) :
    Post ops S w0 i ρ w v w' := by
  obtain ⟨n0, xs0, tk, hSj⟩ := hSj
  subst hv0
  refine ⟨hk, hw.grown hg hw.size (fun k hk => Nat.le_trans hB (h0 k hk)), hg.size, fun b hlt hne => hg.block b hlt fun hb => ?_, fun b hb => ?_⟩
  · refine hne j (by rw [hS]; exact List.mem_cons_self) t hd ?_
    rw [hSj]
    exact hb.symm
  · rw [hS] at hb
    rcases hnew b hb with h | h
    · refine .inl ⟨j, t, by rw [hS]; exact List.mem_cons_self, hd, ?_⟩
      rw [hSj]
      exact h
    · exact .inr h
/-- A row handed on. -/
theorem post_pass {i : Nat} {ρ : Operand → Value} {w : World} {v : Value} {j : Nat} {t : Tmp} {B : Nat} {e : TypeId} {size n : Nat} {xs : List Value} (hw : Below w0.heap.size w0 w)
    (hS : S i = row B e size n xs [j]) (hSj : ∃ tk, S j = row B e size n xs tk) (hd : (ops[j]?).bind (·.dst) = some t) (hv : v = ρ (.tmp t)) (hown : w.ownsRow B e size (ρ (.tmp t)) n xs) : Post ops S w0 i ρ w v w := by
  obtain ⟨tk, hSj⟩ := hSj
  subst hv
  refine ⟨by rw [hS]; exact hown, hw, Nat.le_refl _, fun _ _ _ => rfl, fun b hb => .inl ⟨j, t, by rw [hS]; exact List.mem_cons_self, hd, ?_⟩⟩
  rw [hS] at hb
  rw [hSj]
  exact hb
/-- .. a value that is known. -/
theorem post_val {i : Nat} {ρ : Operand → Value} {w : World} {v x : Value} (hw : Below w0.heap.size w0 w) (hS : S i = val x) (hk : v = x) : Post ops S w0 i ρ w v w := by
  refine post_new hw (by rw [hS]; exact hk) (Below.refl _ _) fun b h => ?_
  rw [hS] at h
  cases h
/-- .. in a world that may have grown. -/
theorem post_vals {i : Nat} {ρ : Operand → Value} {w w' : World} {v x : Value} (hw : Below w0.heap.size w0 w) (hS : S i = val x) (hk : v = x) (hb : Below w.heap.size w w') : Post ops S w0 i ρ w v w' := by
  refine post_new hw (by rw [hS]; exact hk) hb fun b h => ?_
  rw [hS] at h
  cases h


theorem owes_plain {i : Nat} {o : Oper} (hg : o.guard = none) (h : ∀ ρ w, Sees ops S w0 a0 i o ρ w → Below w0.heap.size w0 w → (∀ c, ρ (.const c) = c) → OpOk P o ρ w (Post ops S w0 i ρ w)) : Owes P ops S w0 a0 i o := by
  intro ρ w hs
  have : wantR ops ρ o = true := by unfold wantR; rw [hg]
  rw [if_pos this]
  exact h ρ w hs hs.below hs.const

/-- The value is this; the world may have grown. -/
def Is (x : Value) (w : World) (v : Value) (w' : World) : Prop := v = x ∧ Below w.heap.size w w'
theorem is_mk {x v : Value} {w : World} (h : v = x) : Is x w v w := ⟨h, Below.refl _ _⟩
theorem is_below {x v : Value} {w w' : World} (h : v = x) (hb : Below w.heap.size w w') : Is x w v w' := ⟨h, hb⟩

/-- A guarded operation whose value is known: where the guard says no it is nothing. -/
theorem owes_guard {i : Nat} {o : Oper} {j : Nat} {want : Bool} {d : Tmp} {b : Bool} {x : Value} (hg : o.guard = some (j, want)) (hd : (ops[j]?).bind (·.dst) = some d) (hseen : ((o.looksAt ops).contains d && (writer ops d == some j && !late ops i j)) = true)
    (hS : S i = val (if b = want then x else undef)) (hSj : S j = val (.bool b))
    (h : b = want → ∀ ρ w, Sees ops S w0 a0 i o ρ w → Below w0.heap.size w0 w → (∀ c, ρ (.const c) = c) → OpOk P o ρ w (Is x w)) : Owes P ops S w0 a0 i o := by
  intro ρ w hs
  have hb : ρ (.tmp d) = .bool b := by
    have := hs.new' d j hseen
    rw [hSj] at this
    exact this
  have hw : wantR ops ρ o = (b == want) := by unfold wantR; rw [hg]; simp only [hd, hb]
  rw [hw]
  by_cases hbw : b = want
  · rw [if_pos (by simpa using hbw)]
    have := h hbw ρ w hs hs.below hs.const
    unfold OpOk at *
    generalize (execOp ρ o).run P w = r at *
    have hp : ∀ v w', Is x w v w' → Post ops S w0 i ρ w v w' := fun v w' ⟨hv, hb'⟩ => by
      rw [if_pos hbw] at hS
      exact ⟨by rw [hS]; exact hv, hs.below.trans (hb'.mono hs.below.size), hb'.size, fun b hlt _ => hb'.block b hlt, fun b h => by rw [hS] at h; cases h⟩
    cases r with
    | ok n w' =>
      cases n <;> simp only at this ⊢
      case value v => exact hp _ _ this
      case skip => exact hp _ _ this
      case enter f args => exact this.mono fun e w'' ⟨v, he, hv⟩ => ⟨v, he, hp _ _ hv⟩
    | halt y w' => exact this
  · rw [if_neg (by simpa using hbw), hS, if_neg hbw]
    exact ⟨rfl, rfl⟩

section
variable {dst : Option Tmp} {t : TypeId} {pos : String} {after : Array Edge} {gd : Option (Nat × Bool)} {ρ : Operand → Value} {w : World} {R : Value → World → Prop}
theorem ok_move {x : Operand} (h : R (ρ x) w) : OpOk P ⟨dst, .move x, t, pos, after, gd⟩ ρ w R := h
theorem ok_assign {x : Operand} (h : R (ρ x) w) : OpOk P ⟨dst, .assign x, t, pos, after, gd⟩ ρ w R := h
theorem ok_pick {c x y : Operand} {b : Bool} (hc : ρ c = .bool b) (h : R (if b then ρ x else ρ y) w) : OpOk P ⟨dst, .pick c x y, t, pos, after, gd⟩ ρ w R := by
  unfold OpOk
  simp [execOp, hc, asBool]
  exact h
theorem ok_min {x y : Operand} {ts : Array TypeId} {k : IntKind} {p q : Int} (hx : ρ x = .int k p) (hy : ρ y = .int k q) (h : R (.int k (imin p q)) w) : OpOk P ⟨dst, .call ⟨.builtin .min, #[x, y], ts⟩, t, pos, after, gd⟩ ρ w R := by
  unfold OpOk
  simp [execOp, resolve, invoke, builtin, hx, hy, Builtin.min_, Builtin.min2]
  exact h
theorem ok_make_own {t' e : TypeId} {i : TypeInfo} {z : Value} {size base : Nat} {x : Operand} {c : Nat} (hu : P.underlying t' = some (.slice e)) (hi : P.info? e = some i) (hz : i.zero = some z) (hsz : i.size = size)
    (hx : ρ x = .int .i64 c) (hc0 : ρ (.const (.int .i64 0)) = .int .i64 0) (hby : i.bytes * c ≤ 281474976710656) (h63 : c ≤ maxLen) (hbase : base ≤ w.heap.size)
    (h : ∀ w', w'.ownsRow base e size (.slice (some ⟨w.heap.size, 0, none⟩) 0 c) 0 [] → w.grownBy w' none → R (.slice (some ⟨w.heap.size, 0, none⟩) 0 c) w') :
    OpOk P ⟨dst, .makeSlice t' (.const (.int .i64 0)) x, t, pos, after, gd⟩ ρ w R := by
  obtain ⟨w', hr, h1, h2⟩ := run_make_own (P := P) w base t' e i z size hu hi hz hsz .i64 .i64 c hby h63 hbase
  unfold OpOk
  simp [execOp, hx, hc0, hr, Result.andThen]
  exact h w' h1 h2
theorem ok_append_own {te e : TypeId} {i : TypeInfo} {z : Value} {size bytes base : Nat} {x y : Operand} {n m : Nat} {xs news : List Value} (hu : P.underlying te = some (.slice e)) (hi : P.info? e = some i) (hz : i.zero = some z)
    (hsz : i.size = size) (hby : i.bytes = bytes) (hzs : z.cells.size = size) (hpos : 0 < size) (hown : w.ownsRow base e size (ρ x) n xs) (hy : Sc.Src w size (ρ y) m news)
    (h1 : ∀ u ∈ news, u.oneCell' = true) (h63 : n + m ≤ maxLen) (hb : (n + m) * bytes ≤ 140737488355328) (hbase : base ≤ w.heap.size)
    (h : ∀ v' w', w'.ownsRow base e size v' (n + m) (xs ++ news) → w.grownBy w' (ρ x).ownBlock → (∀ b, v'.ownBlock = some b → (ρ x).ownBlock = some b ∨ w.heap.size ≤ b) → R v' w') :
    OpOk P ⟨dst, .call ⟨.builtin .append, #[x, y], #[te, te]⟩, t, pos, after, gd⟩ ρ w R := by
  obtain ⟨v', w', hr, h2, h3, h4, _⟩ := Sc.run_append_src (P := P) w base te t e i z size bytes hu hi hz hsz hby hzs hpos (ρ x) (ρ y) n m xs news hown hy h1 h63 hb hbase
  unfold OpOk
  simp [execOp, resolve, invoke, builtin, hr, Result.andThen]
  exact h v' w' h2 h3 h4
end


/-- A rule for one operation, used in a region that keeps its order. -/
theorem wpl {o : Oper} {a : Act} {w : World} {rest : List Oper} (hw : Region.wanted o (yielded ops a.tmps) = true) (h : OpOk P o a.eval w (fun v w' => wpList P ops Q rest (a.put o.dst v) w')) : wpList P ops Q (o :: rest) a w := by
  refine wpList_step fun K hK => ?_
  rw [if_pos hw]
  exact OpOk.wp h fun v w' hv => hK _ _ hv
theorem add_zero (ad : Addr) : Addr.add ad 0 = ad := by
  unfold Addr.add
  simp
/-- 'x[:n]'. -/
theorem run_slice_to {w : World} {t e : TypeId} {i : TypeInfo} (ht : P.underlying t = some (.slice e)) (hi : P.info? e = some i) (a : Option Addr) (len cap n : Nat) (h : n ≤ cap) :
    (Instr.slice t (.slice a len cap) none (some (.int .i64 n)) none).run P w = .ok (.slice a n cap) w := by
  have h1 : (0 : Int) ≤ n ∧ (n : Int) ≤ cap := ⟨by omega, by omega⟩
  have h2 : ∀ b : Option Addr, (b.map fun x => x.add 0) = b := fun b => by cases b <;> simp [add_zero]
  simp [Instr.slice, run_underlying ht, Instr.sliceBounds, Instr.sliceBound, asIntOf, h1, sizeOf, typeInfo, hi, h2]
  exact fun hlt => absurd hlt (by omega)
theorem wpl_min {dst : Option Tmp} {t : TypeId} {pos : String} {after : Array Edge} {gd : Option (Nat × Bool)} {x y : Operand} {ts : Array TypeId} {k : IntKind} {p q : Int} {a : Act} {w : World} {rest : List Oper}
    (hw : Region.wanted ⟨dst, .call ⟨.builtin .min, #[x, y], ts⟩, t, pos, after, gd⟩ (yielded ops a.tmps) = true) (hx : a.eval x = .int k p) (hy : a.eval y = .int k q) (h : wpList P ops Q rest (a.put dst (.int k (imin p q))) w) :
    wpList P ops Q (⟨dst, .call ⟨.builtin .min, #[x, y], ts⟩, t, pos, after, gd⟩ :: rest) a w := wpl hw (ok_min hx hy h)
theorem wpl_min_is {dst : Option Tmp} {t : TypeId} {pos : String} {after : Array Edge} {gd : Option (Nat × Bool)} {x y : Operand} {ts : Array TypeId} {k : IntKind} {p q r : Int} {a : Act} {w : World} {rest : List Oper}
    (hw : Region.wanted ⟨dst, .call ⟨.builtin .min, #[x, y], ts⟩, t, pos, after, gd⟩ (yielded ops a.tmps) = true) (hr : imin p q = r) (hx : a.eval x = .int k p) (hy : a.eval y = .int k q) (h : wpList P ops Q rest (a.put dst (.int k r)) w) :
    wpList P ops Q (⟨dst, .call ⟨.builtin .min, #[x, y], ts⟩, t, pos, after, gd⟩ :: rest) a w := by
  subst hr
  exact wpl hw (ok_min hx hy h)
/-- append to a row of the call's own, in a region that keeps its order. -/
theorem wpl_append {dst : Option Tmp} {t : TypeId} {pos : String} {after : Array Edge} {gd : Option (Nat × Bool)} {x y : Operand} {a : Act} {w : World} {rest : List Oper}
    {te e : TypeId} {i : TypeInfo} {z : Value} {size bytes base : Nat} {n m : Nat} {xs news : List Value} {vx vy : Value}
    (hw : Region.wanted ⟨dst, .call ⟨.builtin .append, #[x, y], #[te, te]⟩, t, pos, after, gd⟩ (yielded ops a.tmps) = true) (hx : a.eval x = vx) (hvy : a.eval y = vy)
    (hu : P.underlying te = some (.slice e)) (hi : P.info? e = some i) (hz : i.zero = some z)
    (hsz : i.size = size) (hby : i.bytes = bytes) (hzs : z.cells.size = size) (hpos : 0 < size) (hown : w.ownsRow base e size vx n xs) (hy : Sc.Src w size vy m news)
    (h1 : ∀ u ∈ news, u.oneCell' = true) (h63 : n + m ≤ maxLen) (hb : (n + m) * bytes ≤ 140737488355328) (hbase : base ≤ w.heap.size)
    (h : ∀ v' w', w'.ownsRow base e size v' (n + m) (xs ++ news) → w.grownBy w' vx.ownBlock → (∀ b, v'.ownBlock = some b → vx.ownBlock = some b ∨ w.heap.size ≤ b) → wpList P ops Q rest (a.put dst v') w') :
    wpList P ops Q (⟨dst, .call ⟨.builtin .append, #[x, y], #[te, te]⟩, t, pos, after, gd⟩ :: rest) a w := by
  subst hx
  subst hvy
  exact wpl hw (ok_append_own hu hi hz hsz hby hzs hpos hown hy h1 h63 hb hbase h)
end
section
variable {P : Program} {ops : Array Oper} {Q : Exit → Act → World → Prop}
/-- One element put behind a row of the call's own ('append(s, x)': the element has been laid in a block of one just before). -/
theorem wpl_push {te e : TypeId} {i : TypeInfo} {z : Value} {size bytes base : Nat} {n : Nat} {xs : List Value} {dst : Option Tmp} {x y : Operand} {t : TypeId} {pos : String} {after : Array Edge} {gd : Option (Nat × Bool)} {cs : Array Value} {vs : Value} {a : Act} {w0 : World} {rest : List Oper}
    (hw : Region.wanted ⟨dst, .call ⟨.builtin .append, #[x, y], #[te, te]⟩, t, pos, after, gd⟩ (yielded ops a.tmps) = true) (hx : a.eval x = vs) (hy : a.eval y = .slice (some ⟨w0.heap.size, 0, none⟩) 1 1)
    (hu : P.underlying te = some (.slice e)) (hi : P.info? e = some i) (hz : i.zero = some z)
    (hsz : i.size = size) (hby : i.bytes = bytes) (hzs : z.cells.size = size) (hpos : 0 < size) (hxs : cs.size = size) (h1 : ∀ u ∈ cs.toList, u.oneCell' = true)
    (hown : w0.ownsRow base e size vs n xs) (h63 : n + 1 ≤ maxLen) (hb : (n + 1) * bytes ≤ 140737488355328) (hbase : base ≤ w0.heap.size)
    (h : ∀ v' w', w'.ownsRow base e size v' (n + 1) (xs ++ cs.toList) → w0.grownBy w' vs.ownBlock → (∀ b, v'.ownBlock = some b → vs.ownBlock = some b ∨ w0.heap.size ≤ b) →
      wpList P ops Q rest (a.put dst v') w') :
    wpList P ops Q (⟨dst, .call ⟨.builtin .append, #[x, y], #[te, te]⟩, t, pos, after, gd⟩ :: rest) a (w0.alloc (.cells cs e)) := by
  refine wpl_append hw hx hy hu hi hz hsz hby hzs hpos (hown.alloc _) (Sc.src_block (heap_alloc_new w0 _) (by simp [hxs])) h1 h63 hb (by simp; omega) fun v' w' h2 h3 h4 => ?_
  refine h v' w' h2 ((World.grownBy_alloc w0 _ _).trans h3) fun b hb => ?_
  rcases h4 b hb with h5 | h5
  · exact .inl h5
  · simp at h5
    exact .inr (by omega)
end
end Go.Proofs.YtnbhneeohkfocaaDoor.Any
