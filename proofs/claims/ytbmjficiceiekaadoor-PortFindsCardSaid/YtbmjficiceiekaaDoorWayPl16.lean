/- Rounds, leg by leg; ways: what is found is one, and none arrives earlier; plainly. -/
import Derived.Test.YtbmjficiceiekaaDoorBestPl16
namespace Go.Proofs.YtbmjficiceiekaaDoor.Sc
open Go Go.RowKit Go.ChangeShapes Go.WideShapes Go.ChangeAt
set_option maxRecDepth 100000

def updO (O : Rf) (p : ByteArray) (y : Int × List Lg) : Rf := fun q => if q = p then some y else O q
/-- What a leg does at once to what is reached. -/
def stepO (V : List Vm) (R : Rf) (fr : ByteArray) (O : Rf) (x : Lg) : Rf := match arrC V x with
  | none => O
  | some e => if e.port = fr then O else match O e.port with
    | none => updO O e.port (reachL V R x)
    | some (d, _) => if e.arr < d then updO O e.port (reachL V R x) else O
theorem reachL_eq {V : List Vm} {R : Rf} {x : Lg} {e c : Cl} (he : arrC V x = some e) (hc : frC V x = some c) : reachL V R x = (e.arr, legsR R c.port ++ [x]) := by
  unfold reachL
  rw [he, hc]
theorem reachL_arr {V : List Vm} {R : Rf} {x : Lg} {e : Cl} (hx : LgOk V x) (he : arrC V x = some e) : (reachL V R x).1 = e.arr := by
  obtain ⟨c, hc⟩ := lgOk_fr hx
  rw [reachL_eq he hc]
theorem overR_upd (V : List Vm) (R : Rf) (F : Fr) (p : ByteArray) (x : Lg) : overR V R (updF F p x) = updO (overR V R F) p (reachL V R x) := by
  funext q
  unfold overR updF updO
  by_cases h : q = p
  · rw [if_pos h, if_pos h]
  · rw [if_neg h, if_neg h]
/-- What is fresh is earlier than what was. -/
def FrLess (V : List Vm) (R : Rf) (F : Fr) : Prop := ∀ p y c, F p = some y → arrC V y = some c → lateR R c = false
theorem stepF_less {V : List Vm} {R : Rf} {fr : ByteArray} {F : Fr} (h : FrLess V R F) {x : Lg} : FrLess V R (stepF V R fr F x) := by
  unfold stepF
  cases hx : arrC V x with
  | none => exact h
  | some e =>
    simp only
    split
    · exact h
    split
    · exact h
    split
    · exact h
    rename_i h1 _
    intro p y c hy hc
    unfold updF at hy
    split at hy
    · obtain rfl := Option.some.inj hy
      obtain rfl := Option.some.inj (hx.symm.trans hc)
      simpa using h1
    · exact h p y c hy hc
theorem overR_step {V : List Vm} {R : Rf} {fr : ByteArray} {F : Fr} (hok : FrOk V fr F) (hl : FrLess V R F) {x : Lg} (hx : LgOk V x) : overR V R (stepF V R fr F x) = stepO V R fr (overR V R F) x := by
  obtain ⟨e, he⟩ := lgOk_arr hx
  unfold stepF stepO
  rw [he]
  simp only
  by_cases h1 : e.port = fr
  · rw [if_pos h1, if_pos h1]
  rw [if_neg h1, if_neg h1]
  cases hF : F e.port with
  | none =>
    have hO : overR V R F e.port = R e.port := by unfold overR; rw [hF]
    have hlf : lateF V F e = false := by unfold lateF; rw [hF]; rfl
    rw [hO, hlf]
    cases hR : R e.port with
    | none =>
      have hlr : lateR R e = false := by unfold lateR; rw [hR]
      rw [hlr]
      exact overR_upd V R F e.port x
    | some q =>
      obtain ⟨d, ls⟩ := q
      by_cases hd : d ≤ e.arr
      · have hlr : lateR R e = true := by unfold lateR; rw [hR]; exact decide_eq_true hd
        rw [hlr, if_pos rfl]
        simp only
        rw [if_neg (show ¬ e.arr < d by omega)]
      · have hlr : lateR R e = false := by unfold lateR; rw [hR]; exact decide_eq_false hd
        rw [hlr]
        simp only
        rw [if_pos (show e.arr < d by omega)]
        exact overR_upd V R F e.port x
  | some y =>
    obtain ⟨hy, ⟨c, hc, hcp⟩, _⟩ := hok _ y hF
    have hO : overR V R F e.port = some (reachL V R y) := by unfold overR; rw [hF]
    have hcl := hl _ y c hF hc
    have h2 := reachL_arr (R := R) hy hc
    have hlf : lateF V F e = decide (c.arr ≤ e.arr) := by unfold lateF; rw [hF, Option.bind_some, hc]
    rw [hO, hlf]
    generalize reachL V R y = z at *
    obtain ⟨zd, zl⟩ := z
    simp only at h2 ⊢
    subst h2
    by_cases h3 : c.arr ≤ e.arr
    · rw [decide_eq_true h3, if_neg (show ¬ e.arr < c.arr by omega)]
      cases lateR R e <;> rfl
    · have hlr : lateR R e = false := by
        unfold lateR at hcl ⊢
        rw [hcp] at hcl
        cases hR : R e.port with
        | none => rfl
        | some q =>
          rw [hR] at hcl
          simp only [decide_eq_false_iff_not] at hcl ⊢
          omega
      rw [hlr, decide_eq_false h3, if_pos (show e.arr < c.arr by omega)]
      exact overR_upd V R F e.port x
theorem stepF_eq (V : List Vm) (R : Rf) (fr : ByteArray) (F : Fr) (x : Lg) : stepF V R fr F x = F ∨ ∃ e : Cl, stepF V R fr F x = updF F e.port x := by
  unfold stepF
  split
  · exact .inl rfl
  split
  · exact .inl rfl
  split
  · exact .inl rfl
  split
  · exact .inl rfl
  · exact .inr ⟨_, rfl⟩
theorem stepO_eq {V : List Vm} (R : Rf) (fr : ByteArray) (O : Rf) {x : Lg} {e : Cl} (he : arrC V x = some e) : stepO V R fr O x = O ∨ (stepO V R fr O x = updO O e.port (reachL V R x) ∧ (O e.port = none ∨ ∃ d ls, O e.port = some (d, ls) ∧ e.arr < d)) := by
  unfold stepO
  rw [he]
  simp only
  split
  · exact .inl rfl
  cases h : O e.port with
  | none => exact .inr ⟨rfl, .inl rfl⟩
  | some q =>
    obtain ⟨d, ls⟩ := q
    simp only
    split
    · rename_i h2
      exact .inr ⟨rfl, .inr ⟨d, ls, rfl, h2⟩⟩
    · exact .inl rfl
/-- A round, leg by leg. -/
theorem over_fold {V : List Vm} (R : Rf) (fr : ByteArray) : ∀ (l : List Lg), (∀ x ∈ l, LgOk V x) → overR V R (freshF V R fr l) = l.foldl (stepO V R fr) R ∧ FrLess V R (freshF V R fr l) := by
  intro l
  rw [← List.reverse_reverse l]
  generalize l.reverse = m
  induction m with
  | nil => exact fun _ => ⟨overR_none _ _ _ fun p => rfl, fun p y c h => by simp [freshF] at h⟩
  | cons x r ih =>
    intro h
    have h1 : ∀ y ∈ r.reverse, LgOk V y := fun y hy => h y (by rw [List.reverse_cons]; exact List.mem_append_left _ hy)
    have hx := h x (by rw [List.reverse_cons]; exact List.mem_append_right _ (List.mem_singleton.2 rfl))
    obtain ⟨i1, i2⟩ := ih h1
    rw [List.reverse_cons, freshF_snoc, List.foldl_append]
    exact ⟨by rw [overR_step (freshF_ok R fr _ h1) i2 hx, i1]; rfl, stepF_less i2⟩
theorem nextR_fold (V : List Vm) (fr : ByteArray) (ch : Int) (R : Rf) : nextR V fr ch R = (restV R fr ch V 0).foldl (stepO V R fr) R := (over_fold R fr _ (legs_ok R fr ch V)).1
/-- No later than a day. -/
def Le (R : Rf) (p : ByteArray) (d : Int) : Prop := ∃ d' ls, R p = some (d', ls) ∧ d' ≤ d
theorem stepO_le {V : List Vm} {R : Rf} {fr : ByteArray} {O : Rf} {x : Lg} (hx : LgOk V x) {p : ByteArray} {d : Int} (h : Le O p d) : Le (stepO V R fr O x) p d := by
  obtain ⟨e, he⟩ := lgOk_arr hx
  obtain ⟨d', ls, h1, h2⟩ := h
  unfold stepO
  rw [he]
  simp only
  split
  · exact ⟨d', ls, h1, h2⟩
  split
  · rename_i h3
    have hne : p ≠ e.port := fun e2 => by rw [e2, h3] at h1; cases h1
    exact ⟨d', ls, by unfold updO; rw [if_neg hne]; exact h1, h2⟩
  · rename_i d0 ls0 h3
    split
    · rename_i h4
      by_cases hp : p = e.port
      · subst hp
        obtain ⟨rfl, rfl⟩ := Prod.mk.inj (Option.some.inj (h1.symm.trans h3))
        exact ⟨(reachL V R x).1, (reachL V R x).2, by unfold updO; rw [if_pos rfl], by rw [reachL_arr hx he]; omega⟩
      · exact ⟨d', ls, by unfold updO; rw [if_neg hp]; exact h1, h2⟩
    · exact ⟨d', ls, h1, h2⟩
theorem stepO_hit {V : List Vm} {R : Rf} {fr : ByteArray} {O : Rf} {x : Lg} (hx : LgOk V x) {e : Cl} (he : arrC V x = some e) (hne : e.port ≠ fr) : Le (stepO V R fr O x) e.port e.arr := by
  have h1 : ∀ O', Le (updO O' e.port (reachL V R x)) e.port e.arr := fun O' => ⟨(reachL V R x).1, (reachL V R x).2, by unfold updO; rw [if_pos rfl], by rw [reachL_arr hx he]; exact Int.le_refl _⟩
  unfold stepO
  rw [he]
  simp only
  rw [if_neg hne]
  split
  · exact h1 O
  · rename_i d ls h2
    split
    · exact h1 O
    · exact ⟨d, ls, h2, by omega⟩
theorem fold_le {V : List Vm} {R : Rf} {fr : ByteArray} {p : ByteArray} {d : Int} : ∀ (l : List Lg), (∀ x ∈ l, LgOk V x) → ∀ {O : Rf}, Le O p d → Le (l.foldl (stepO V R fr) O) p d
  | [], _, _, h => h
  | x :: r, hl, _, h => fold_le r (fun y hy => hl y (List.mem_cons_of_mem _ hy)) (stepO_le (hl x (List.mem_cons_self ..)) h)
theorem fold_hit {V : List Vm} {R : Rf} {fr : ByteArray} {x : Lg} {e : Cl} (he : arrC V x = some e) (hne : e.port ≠ fr) : ∀ (l : List Lg), (∀ x ∈ l, LgOk V x) → x ∈ l → ∀ (O : Rf), Le (l.foldl (stepO V R fr) O) e.port e.arr
  | y :: r, hl, hx, _ => by
    rw [List.foldl_cons]
    rcases List.mem_cons.1 hx with h | h
    · subst h
      exact fold_le r (fun z hz => hl z (List.mem_cons_of_mem _ hz)) (stepO_hit (hl x (List.mem_cons_self ..)) he hne)
    · exact fold_hit he hne r (fun z hz => hl z (List.mem_cons_of_mem _ hz)) h _
theorem next_le {V : List Vm} {fr : ByteArray} {ch : Int} {R : Rf} {p : ByteArray} {d : Int} (h : Le R p d) : Le (nextR V fr ch R) p d := by
  rw [nextR_fold]
  exact fold_le _ (legs_ok R fr ch V) h
theorem next_hit {V : List Vm} {fr : ByteArray} {ch : Int} {R : Rf} {x : Lg} {e : Cl} (he : arrC V x = some e) (hne : e.port ≠ fr) (hx : x ∈ restV R fr ch V 0) : Le (nextR V fr ch R) e.port e.arr := by
  rw [nextR_fold]
  exact fold_hit he hne _ (legs_ok R fr ch V) hx _
theorem rounds_le {V : List Vm} {fr : ByteArray} {ch ready : Int} {p : ByteArray} {d : Int} {k : Nat} (h : Le (roundsR V fr ch ready k) p d) : ∀ n, Le (roundsR V fr ch ready (k + n)) p d
  | 0 => h
  | n + 1 => next_le (rounds_le h n)
/-- The legs that may be taken: which. -/
theorem restC_in {R : Rf} {fr : ByteArray} {ch : Int} {i n a b : Nat} {l0 : List Cl} {c : Cl} (hc : l0[a]? = some c) (hr : rdyC R fr ch c = true) (hab : a < b) (hb : b < n) : ∀ (m k : Nat), l0.length - k = m → k ≤ a → (⟨i, a, b⟩ : Lg) ∈ restC R fr ch i n (l0.drop k) k
  | 0, k, hm, hk => by have := (List.getElem?_eq_some_iff.1 hc).1; omega
  | m + 1, k, hm, hk => by
    rw [restC_next R fr ch i n l0 k (by omega)]
    by_cases h : k = a
    · subst h
      obtain ⟨hlt, he⟩ := List.getElem?_eq_some_iff.1 hc
      rw [he, if_pos hr]
      refine List.mem_append_left _ (List.mem_map.2 ⟨b, ?_, rfl⟩)
      rw [List.mem_range'_1]
      omega
    · exact List.mem_append_right _ (restC_in hc hr hab hb m (k + 1) (by omega) (by omega))
theorem restV_in {R : Rf} {fr : ByteArray} {ch : Int} {V : List Vm} {x : Lg} {c : Cl} (hx : LgOk V x) (hc : frC V x = some c) (hr : rdyC R fr ch c = true) : ∀ (m k : Nat), V.length - k = m → k ≤ x.voy → x ∈ restV R fr ch (V.drop k) k
  | 0, k, hm, hk => by
    obtain ⟨v, hv, _⟩ := hx
    have := (List.getElem?_eq_some_iff.1 hv).1
    omega
  | m + 1, k, hm, hk => by
    rw [restV_next R fr ch V k (by omega)]
    by_cases h : k = x.voy
    · subst h
      obtain ⟨v, hv, h1, h2⟩ := hx
      obtain ⟨hlt, he⟩ := List.getElem?_eq_some_iff.1 hv
      rw [he]
      have hc2 : v.calls[x.fr]? = some c := by rw [frC, hv, Option.bind_some] at hc; exact hc
      exact List.mem_append_left _ (restC_in (l0 := v.calls) hc2 hr h1 h2 _ 0 rfl (Nat.zero_le _))
    · exact List.mem_append_right _ (restV_in hx hc hr m (k + 1) (by omega) (by omega))
/-- A way: legs that one may take one behind the other, to a port, by a day. -/
inductive Way (V : List Vm) (fr : ByteArray) (ch ready : Int) : List Lg → ByteArray → Int → Prop where
  | here : Way V fr ch ready [] fr ready
  | leg {ls : List Lg} {d : Int} {x : Lg} {c e : Cl} : Way V fr ch ready ls c.port d → LgOk V x → frC V x = some c → arrC V x = some e → d + (if ls = [] then 0 else ch) ≤ c.cut → Way V fr ch ready (ls ++ [x]) e.port e.arr
/-- Calls one behind the other, as days go. -/
def VUp (V : List Vm) : Prop := ∀ v ∈ V, ∀ (a b : Nat) c e, v.calls[a]? = some c → v.calls[b]? = some e → a < b → c.cut ≤ e.arr
theorem mayCs_adj {l : List Cl} (h : mayCs l = true) {k : Nat} (hk : k + 1 < l.length) : l[k].dep ≤ l[k + 1].arr := by
  rw [mayCs, List.all_eq_true] at h
  have := h (k + 1) (List.mem_range.2 hk)
  unfold okAt at this
  rw [List.getElem?_eq_getElem hk] at this
  simp only [List.getElem?_eq_getElem (show k < l.length by omega), Bool.and_eq_true, adjC, decide_eq_true_eq] at this
  exact this.2.2
theorem mayCs_up {l : List Cl} (h : mayCs l = true) {a : Nat} : ∀ (n : Nat) (hb : a + n + 1 < l.length), (l[a]'(by omega)).dep ≤ (l[a + n + 1]).arr
  | 0, hb => mayCs_adj h hb
  | n + 1, hb => by
    have h1 := mayCs_up h n (a := a) (by omega)
    have h2 := mayCs_adj h (k := a + n + 1) hb
    have h3 := (okC_range (mayCs_at h (k := a + n + 1) (by omega))).2.2.2.1
    exact Int.le_trans h1 (Int.le_trans h3 h2)
theorem clean_up (l : List Vm) : VUp (l.map cleanV) := by
  intro v hv a b c e hc he hab
  obtain ⟨x, _, rfl⟩ := List.mem_map.1 hv
  unfold cleanV at hc he
  split at hc
  · rename_i h
    rw [if_pos h] at he
    have hm := (mayV_cs h).2.2.2
    obtain ⟨ha, rfl⟩ := List.getElem?_eq_some_iff.1 hc
    obtain ⟨hb, rfl⟩ := List.getElem?_eq_some_iff.1 he
    obtain ⟨n, rfl⟩ : ∃ n, b = a + n + 1 := ⟨b - a - 1, by omega⟩
    exact Int.le_trans (okC_range (mayCs_at hm ha)).2.2.2.2.1 (mayCs_up hm n hb)
  · simp at hc
theorem leg_up {V : List Vm} (hv : VUp V) {x : Lg} (hx : LgOk V x) {c e : Cl} (hc : frC V x = some c) (he : arrC V x = some e) : c.cut ≤ e.arr := by
  obtain ⟨v, h1, h2, h3⟩ := hx
  rw [frC, h1, Option.bind_some] at hc
  rw [arrC, h1, Option.bind_some] at he
  exact hv v (List.mem_of_getElem? h1) _ _ c e hc he h2
theorem Way.day {V : List Vm} {fr : ByteArray} {ch ready : Int} (hv : VUp V) (hch : 0 ≤ ch) {ls : List Lg} {p : ByteArray} {d : Int} (h : Way V fr ch ready ls p d) : ready ≤ d := by
  induction h with
  | here => exact Int.le_refl _
  | leg h1 hx hc he hd ih =>
    have := leg_up hv hx hc he
    split at hd <;> omega
theorem Way.nil {V : List Vm} {fr : ByteArray} {ch ready : Int} {ls : List Lg} {p : ByteArray} {d : Int} (h : Way V fr ch ready ls p d) (he : ls = []) : p = fr := by
  cases h with
  | here => rfl
  | leg _ _ _ _ _ => simp at he
/-- No way arrives earlier than the rounds tell. -/
theorem way_least {V : List Vm} {fr : ByteArray} {ch ready : Int} (hv : VUp V) (hch : 0 ≤ ch) {ls : List Lg} {p : ByteArray} {d : Int} (ho : VOk V) (h : Way V fr ch ready ls p d) (hp : p ≠ fr) : Le (roundsR V fr ch ready ls.length) p d := by
  induction h with
  | here => exact absurd rfl hp
  | @leg ls d x c e h1 hx hc he hd ih =>
    rw [List.length_append, List.length_singleton]
    show Le (nextR V fr ch (roundsR V fr ch ready ls.length)) e.port e.arr
    refine next_hit he hp ?_
    have hr : rdyC (roundsR V fr ch ready ls.length) fr ch c = true := by
      unfold rdyC waitC
      by_cases hq : c.port = fr
      · rw [hq, (rounds_ok ho fr ch ready ls.length).from_]
        simp only [if_true]
        have := h1.day hv hch
        refine decide_eq_true ?_
        split at hd <;> omega
      · obtain ⟨d', ls', h2, h3⟩ := ih hq
        rw [h2]
        simp only [if_neg hq]
        have hne : ls ≠ [] := fun e0 => hq (h1.nil e0)
        rw [if_neg hne] at hd
        exact decide_eq_true (by omega)
    have := restV_in (R := roundsR V fr ch ready ls.length) (fr := fr) (ch := ch) hx hc hr V.length 0 rfl (Nat.zero_le _)
    simpa using this
/-- What the rounds tell is a way. -/
theorem legsR_some {R : Rf} {p : ByteArray} {d : Int} {ls : List Lg} (h : R p = some (d, ls)) : legsR R p = ls := by unfold legsR; rw [h]
theorem rounds_way {V : List Vm} (hv : VOk V) (fr : ByteArray) (ch ready : Int) : ∀ (n : Nat) (p : ByteArray) (d : Int) (ls : List Lg), roundsR V fr ch ready n p = some (d, ls) → Way V fr ch ready ls p d
  | 0, p, d, ls, h => by
    simp only [roundsR, R0] at h
    split at h
    · rename_i e
      obtain ⟨rfl, rfl⟩ := Prod.mk.inj (Option.some.inj h)
      rw [e]
      exact .here
    · cases h
  | n + 1, p, d, ls, h => by
    have hF := freshF_ok (V := V) (roundsR V fr ch ready n) fr (restV (roundsR V fr ch ready n) fr ch V 0) (legs_ok _ fr ch V)
    simp only [roundsR] at h
    unfold nextR overR at h
    cases hq : freshF V (roundsR V fr ch ready n) fr (restV (roundsR V fr ch ready n) fr ch V 0) p with
    | none => rw [hq] at h; exact rounds_way hv fr ch ready n p d ls h
    | some x =>
      rw [hq] at h
      obtain ⟨hx, ⟨e, he, hep⟩, _⟩ := hF p x hq
      obtain ⟨c, hc⟩ := lgOk_fr hx
      have h2 := Option.some.inj h
      rw [reachL_eq he hc] at h2
      obtain ⟨rfl, rfl⟩ := Prod.mk.inj h2
      subst hep
      have hrd := freshF_rdy (V := V) (roundsR V fr ch ready n) fr ch _ (fun _ hy => hy) _ x c hq hc
      unfold rdyC at hrd
      cases hR : roundsR V fr ch ready n c.port with
      | none => rw [hR] at hrd; cases hrd
      | some q =>
        obtain ⟨d0, ls0⟩ := q
        rw [hR] at hrd
        have h3 := of_decide_eq_true hrd
        rw [legsR_some hR]
        refine .leg (rounds_way hv fr ch ready n _ _ _ hR) hx hc he ?_
        unfold waitC at h3
        by_cases hq2 : c.port = fr
        · rw [hq2, (rounds_ok hv fr ch ready n).from_] at hR
          obtain ⟨rfl, rfl⟩ := Prod.mk.inj (Option.some.inj hR)
          rw [if_pos hq2] at h3
          rw [if_pos rfl]
          exact h3
        · rw [if_neg hq2] at h3
          rw [if_neg ((rounds_ok hv fr ch ready n).day _ _ _ hR hq2).2]
          exact h3
where
  freshF_rdy {V : List Vm} (R : Rf) (fr : ByteArray) (ch : Int) : ∀ (l : List Lg), (∀ x ∈ l, x ∈ restV R fr ch V 0) → ∀ p x c, freshF V R fr l p = some x → frC V x = some c → rdyC R fr ch c = true := by
    intro l hl p x c hx hc
    have h1 : x ∈ l := freshF_mem l p x hx
    exact restV_rdy V.length 0 rfl x (by simpa using hl x h1) c hc
  freshF_mem {V : List Vm} {R : Rf} {fr : ByteArray} : ∀ (l : List Lg) (p : ByteArray) (x : Lg), freshF V R fr l p = some x → x ∈ l := by
    intro l
    rw [← List.reverse_reverse l]
    generalize l.reverse = m
    induction m with
    | nil => exact fun p x h => by simp [freshF] at h
    | cons y r ih =>
      intro p x h
      rw [List.reverse_cons, freshF_snoc] at h
      rw [List.reverse_cons]
      rcases stepF_eq V R fr (freshF V R fr r.reverse) y with h1 | ⟨e, h1⟩
      · rw [h1] at h; exact List.mem_append_left _ (ih p x h)
      rw [h1] at h
      unfold updF at h
      split at h
      · obtain rfl := Option.some.inj h
        exact List.mem_append_right _ (List.mem_singleton.2 rfl)
      · exact List.mem_append_left _ (ih p x h)
  restC_rdy {R : Rf} {fr : ByteArray} {ch : Int} {i n : Nat} {l0 : List Cl} : ∀ (m k : Nat), l0.length - k = m → ∀ x ∈ restC R fr ch i n (l0.drop k) k, ∀ c, l0[x.fr]? = some c → rdyC R fr ch c = true
    | 0, k, hm, x, hx, c, hc => by rw [restC_end _ _ _ _ _ _ _ (by omega)] at hx; cases hx
    | m + 1, k, hm, x, hx, c, hc => by
      rw [restC_next R fr ch i n l0 k (by omega)] at hx
      rcases List.mem_append.1 hx with h1 | h1
      · split at h1
        · rename_i hr
          obtain ⟨t, ht, rfl⟩ := List.mem_map.1 h1
          have hkl : k < l0.length := by omega
          rw [List.getElem?_eq_getElem hkl] at hc
          obtain rfl := Option.some.inj hc
          exact hr
        · cases h1
      · exact restC_rdy m (k + 1) (by omega) x h1 c hc
  restV_rdy {V : List Vm} {R : Rf} {fr : ByteArray} {ch : Int} : ∀ (m k : Nat), V.length - k = m → ∀ x ∈ restV R fr ch (V.drop k) k, ∀ c, frC V x = some c → rdyC R fr ch c = true
    | 0, k, hm, x, hx, c, hc => by rw [List.drop_eq_nil_of_le (by omega)] at hx; cases hx
    | m + 1, k, hm, x, hx, c, hc => by
      have hk : k < V.length := by omega
      rw [restV_next R fr ch V k hk] at hx
      rcases List.mem_append.1 hx with h1 | h1
      · have h2 := (restC_mem h1).1
        rw [frC, h2, List.getElem?_eq_getElem hk, Option.bind_some] at hc
        exact restC_rdy (l0 := V[k].calls) _ 0 rfl x h1 c hc
      · exact restV_rdy m (k + 1) (by omega) x h1 c hc
/-- With the earliest day, by no more legs than any way. -/
theorem step_day {V : List Vm} {R : Rf} {fr : ByteArray} {O : Rf} {x : Lg} (hx : LgOk V x) {p : ByteArray} : stepO V R fr O x p = O p ∨ (∀ d ls, O p = some (d, ls) → ∃ d' ls', stepO V R fr O x p = some (d', ls') ∧ d' < d) := by
  obtain ⟨e, he⟩ := lgOk_arr hx
  rcases stepO_eq R fr O he with h | ⟨h, h2⟩
  · exact .inl (by rw [h])
  rw [h]
  unfold updO
  by_cases hp : p = e.port
  · rw [if_pos hp]
    refine .inr fun d ls h3 => ?_
    rw [hp] at h3
    rcases h2 with h2 | ⟨d', ls', h2, h4⟩
    · rw [h2] at h3; cases h3
    · obtain ⟨rfl, rfl⟩ := Prod.mk.inj (Option.some.inj (h2.symm.trans h3))
      exact ⟨(reachL V R x).1, (reachL V R x).2, rfl, by rw [reachL_arr hx he]; exact h4⟩
  · exact .inl (if_neg hp)
theorem fold_day {V : List Vm} {R : Rf} {fr : ByteArray} {p : ByteArray} : ∀ (l : List Lg), (∀ x ∈ l, LgOk V x) → ∀ (O : Rf) (d : Int) (ls : List Lg), O p = some (d, ls) → l.foldl (stepO V R fr) O p = some (d, ls) ∨ ∃ d' ls', l.foldl (stepO V R fr) O p = some (d', ls') ∧ d' < d
  | [], _, O, d, ls, h => .inl h
  | x :: r, hl, O, d, ls, h => by
    have hr := fun z (hz : z ∈ r) => hl z (List.mem_cons_of_mem _ hz)
    rcases step_day (R := R) (fr := fr) (O := O) (p := p) (hl x (List.mem_cons_self ..)) with h1 | h1
    · exact fold_day r hr _ d ls (h1.trans h)
    · obtain ⟨d', ls', h2, h3⟩ := h1 d ls h
      rcases fold_day r hr _ d' ls' h2 with h4 | ⟨d2, l2, h4, h5⟩
      · exact .inr ⟨d', ls', h4, h3⟩
      · exact .inr ⟨d2, l2, h4, by omega⟩
theorem rounds_day {V : List Vm} {fr : ByteArray} {ch ready : Int} {p : ByteArray} {d : Int} {ls : List Lg} {k : Nat} (h : roundsR V fr ch ready k p = some (d, ls)) : ∀ n, roundsR V fr ch ready (k + n) p = some (d, ls) ∨ ∃ d' ls', roundsR V fr ch ready (k + n) p = some (d', ls') ∧ d' < d
  | 0 => .inl h
  | n + 1 => by
    show nextR V fr ch (roundsR V fr ch ready (k + n)) p = _ ∨ ∃ d' ls', nextR V fr ch (roundsR V fr ch ready (k + n)) p = _ ∧ _
    rw [nextR_fold]
    rcases rounds_day h n with h1 | ⟨d1, l1, h1, h2⟩
    · exact fold_day _ (legs_ok _ fr ch V) _ d ls h1
    · rcases fold_day _ (legs_ok (roundsR V fr ch ready (k + n)) fr ch V) _ d1 l1 h1 with h3 | ⟨d3, l3, h3, h4⟩
      · exact .inr ⟨d1, l1, h3, h2⟩
      · exact .inr ⟨d3, l3, h3, by omega⟩
/-- The law of the earliest way. -/
theorem way_best {V : List Vm} {fr : ByteArray} {ch ready : Int} (hv : VUp V) (ho : VOk V) (hch : 0 ≤ ch) {ls : List Lg} {p : ByteArray} {d : Int} (h : Way V fr ch ready ls p d) (hp : p ≠ fr) (hn : ls.length ≤ 8) :
    ∃ d' ls', roundsR V fr ch ready 8 p = some (d', ls') ∧ (d' < d ∨ d' = d ∧ ls'.length ≤ ls.length) := by
  obtain ⟨d1, l1, h1, h2⟩ := way_least hv hch ho h hp
  have h3 := rounds_day h1 (8 - ls.length)
  rw [show ls.length + (8 - ls.length) = 8 by omega] at h3
  rcases h3 with h3 | ⟨d3, l3, h3, h4⟩
  · refine ⟨d1, l1, h3, ?_⟩
    have h4 := (rounds_ok ho fr ch ready ls.length).len p d1 l1 h1
    omega
  · exact ⟨d3, l3, h3, by omega⟩
/-- A way stays one for who is ready earlier, needs fewer days for a change, or has more voyages. -/
theorem Way.mono {V V' : List Vm} {fr : ByteArray} {ch ch' ready ready' : Int} (hV : ∀ (i : Nat) v, V[i]? = some v → V'[i]? = some v) (hr : ready' ≤ ready) (hch : ch' ≤ ch) {ls : List Lg} {p : ByteArray} {d : Int} (h : Way V fr ch ready ls p d) : ∃ d', Way V' fr ch' ready' ls p d' ∧ d' ≤ d := by
  induction h with
  | here => exact ⟨ready', .here, hr⟩
  | @leg ls d x c e h1 hx hc he hd ih =>
    obtain ⟨d', h2, h3⟩ := ih
    have hx' : LgOk V' x := by
      obtain ⟨v, h4, h5⟩ := hx
      exact ⟨v, hV _ _ h4, h5⟩
    obtain ⟨v, h4, h5⟩ := hx
    have hc' : frC V' x = some c := by rw [frC, h4] at hc; rw [frC, hV _ _ h4]; exact hc
    have he' : arrC V' x = some e := by rw [arrC, h4] at he; rw [arrC, hV _ _ h4]; exact he
    exact ⟨e.arr, .leg h2 hx' hc' he' (by split at hd <;> simp_all <;> omega), Int.le_refl _⟩
end Go.Proofs.YtbmjficiceiekaaDoor.Sc
