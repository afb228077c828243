/- What is newly reached in a round; plainly. -/
import Derived.Test.YtbmjficiceiekaaDoorArr16
namespace Go.Proofs.YtbmjficiceiekaaDoor.Sc
open Go Go.RowKit Go.ChangeShapes Go.WideShapes Go.ChangeAt
set_option maxRecDepth 100000

/-- The best leg to each port that is newly reached. -/
abbrev Fr := ByteArray → Option Lg
def lateR (R : Rf) (e : Cl) : Bool := match R e.port with
  | some (d, _) => decide (d ≤ e.arr)
  | none => false
def lateF (V : List Vm) (F : Fr) (e : Cl) : Bool := match (F e.port).bind (arrC V) with
  | some b => decide (b.arr ≤ e.arr)
  | none => false
def updF (F : Fr) (p : ByteArray) (x : Lg) : Fr := fun q => if q = p then some x else F q
def stepF (V : List Vm) (R : Rf) (fr : ByteArray) (F : Fr) (x : Lg) : Fr := match arrC V x with
  | none => F
  | some e => if e.port = fr then F else if lateR R e = true then F else if lateF V F e = true then F else updF F e.port x
def freshF (V : List Vm) (R : Rf) (fr : ByteArray) (l : List Lg) : Fr := l.foldl (stepF V R fr) fun _ => none
theorem freshF_snoc (V : List Vm) (R : Rf) (fr : ByteArray) (l : List Lg) (x : Lg) : freshF V R fr (l ++ [x]) = stepF V R fr (freshF V R fr l) x := by rw [freshF, List.foldl_append]; rfl
theorem lgOk_arr {V : List Vm} {x : Lg} (h : LgOk V x) : ∃ c, arrC V x = some c := by
  obtain ⟨v, hv, _, h2⟩ := h
  exact ⟨v.calls[x.to], by rw [arrC, hv, Option.bind_some, List.getElem?_eq_getElem h2]⟩
/-- Each that is newly reached is a leg that ends there; none ends where all begin. -/
def FrOk (V : List Vm) (fr : ByteArray) (F : Fr) : Prop := ∀ p y, F p = some y → LgOk V y ∧ (∃ c, arrC V y = some c ∧ c.port = p) ∧ p ≠ fr
theorem stepF_ok {V : List Vm} {R : Rf} {fr : ByteArray} {F : Fr} (h : FrOk V fr F) {x : Lg} (hx : LgOk V x) : FrOk V fr (stepF V R fr F x) := by
  obtain ⟨c, hc⟩ := lgOk_arr hx
  unfold stepF
  rw [hc]
  simp only
  split
  · exact h
  split
  · exact h
  split
  · exact h
  rename_i h1 _ _
  intro p y hy
  unfold updF at hy
  split at hy
  · rename_i e
    obtain rfl := Option.some.inj hy
    exact ⟨hx, ⟨c, hc, e.symm⟩, fun e2 => h1 (e.symm.trans e2)⟩
  · exact h p y hy
theorem freshF_ok {V : List Vm} (R : Rf) (fr : ByteArray) : ∀ (l : List Lg), (∀ x ∈ l, LgOk V x) → FrOk V fr (freshF V R fr l) := by
  intro l
  rw [← List.reverse_reverse l]
  generalize l.reverse = m
  induction m with
  | nil => exact fun _ p y hy => by simp [freshF] at hy
  | cons x r ih =>
    intro h
    rw [List.reverse_cons, freshF_snoc]
    exact stepF_ok (ih fun y hy => h y (by rw [List.reverse_cons]; exact List.mem_append_left _ hy)) (h x (by rw [List.reverse_cons]; exact List.mem_append_right _ (List.mem_singleton.2 rfl)))
/-- A map that tells them. -/
def FEnts (es : Mp.Ents) (F : Fr) : Prop := ∀ p, Mp.mget es p = (F p).map fun x => .agg x.cells
theorem FEnts.put {es : Mp.Ents} {F : Fr} (h : FEnts es F) (p : ByteArray) (x : Lg) : FEnts (Mp.mput es p (.agg x.cells)) (updF F p x) := by
  intro q
  unfold updF
  by_cases e : q = p
  · subst e; rw [if_pos rfl, Mp.mget_mput_same]; rfl
  · rw [if_neg e, Mp.mget_mput_other _ _ e]; exact h q
theorem zeroLeg (w : World) : (zeroValue 37).run Tryd.prog w = .ok (.agg #[.int .i64 0, .int .i64 0, .int .i64 0]) w := by kernel_rfl
theorem restC_mem {R : Rf} {fr : ByteArray} {ch : Int} {i n : Nat} : ∀ {l : List Cl} {a : Nat} {x : Lg}, x ∈ restC R fr ch i n l a → x.voy = i ∧ x.fr < x.to ∧ x.to < n
  | [], _, x, h => by cases h
  | c :: r, a, x, h => by
    rcases List.mem_append.1 h with h1 | h1
    · split at h1
      · obtain ⟨t, ht, rfl⟩ := List.mem_map.1 h1
        have := List.mem_range'_1.1 ht
        exact ⟨rfl, by show a < t; omega, by show t < n; omega⟩
      · cases h1
    · exact restC_mem h1
theorem restV_mem {R : Rf} {fr : ByteArray} {ch : Int} {V : List Vm} : ∀ (n : Nat) (i : Nat), V.length - i = n → ∀ x ∈ restV R fr ch (V.drop i) i, LgOk V x
  | 0, i, h, x, hx => by rw [List.drop_eq_nil_of_le (by omega)] at hx; cases hx
  | n + 1, i, h, x, hx => by
    have hi : i < V.length := by omega
    rw [restV_next R fr ch V i hi] at hx
    rcases List.mem_append.1 hx with h1 | h1
    · obtain ⟨e, h2, h3⟩ := restC_mem h1
      exact ⟨V[i], by rw [e, List.getElem?_eq_getElem hi], h2, h3⟩
    · exact restV_mem n (i + 1) (by omega) x h1
theorem legs_ok (R : Rf) (fr : ByteArray) (ch : Int) (V : List Vm) : ∀ x ∈ restV R fr ch V 0, LgOk V x := fun x hx => restV_mem V.length 0 rfl x (by simpa using hx)
end Go.Proofs.YtbmjficiceiekaaDoor.Sc
