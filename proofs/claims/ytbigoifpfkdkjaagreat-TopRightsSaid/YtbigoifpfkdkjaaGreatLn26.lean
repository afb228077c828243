/- Pledges: who is ahead of whom, what is pledged, released and paid; plainly. -/
import Derived.Test.YtbigoifpfkdkjaaGreatChars
namespace Go.Proofs.YtbigoifpfkdkjaaGreat.Sc
open Go Go.RowKit
set_option maxRecDepth 100000

structure Pg where
  thing : ByteArray
  debtor : ByteArray
  cred : ByteArray
  day : Int
  amt : Int
  held : Bool
def Pg.cells (p : Pg) : Array Value := #[.string p.thing, .string p.debtor, .string p.cred, .int .i64 p.day, .int .i64 p.amt, .bool p.held]
def Pg.row (p : Pg) : List Value := p.cells.toList
def pgCells (l : List Pg) : List Value := l.flatMap Pg.row
def mayP (p : Pg) : Bool :=
  nameOk p.thing && (nameOk p.debtor && (nameOk p.cred && (!decide (p.debtor = p.cred) && (decide (0 ≤ p.day) && (decide (p.day ≤ 1048576) && (decide (1 ≤ p.amt) && decide (p.amt ≤ 1099511627776)))))))
/-- The pledges of a thing. -/
def ofT (l : List Pg) (t : ByteArray) : List Pg := l.filter fun x => decide (x.thing = t)
/-- What is wrong with one more pledge of a thing that has these. -/
def wrongT (r : List Pg) (n : Nat) (p : Pg) : Int :=
  if r.any (fun x => !decide (x.debtor = p.debtor)) then 8 else if r.any (fun x => decide (x.cred = p.cred)) then 5 else if p.held && r.any (fun x => x.held) then 9 else if 4096 ≤ n then 7 else 0
def pledgeC (l : List Pg) (p : Pg) : Int := if mayP p = true then wrongT (ofT l p.thing) l.length p else 1
def pledgeL (l : List Pg) (p : Pg) : List Pg := if pledgeC l p = 0 then l ++ [p] else l
def isOf (t c : ByteArray) (x : Pg) : Bool := decide (x.thing = t) && decide (x.cred = c)
def relL (l : List Pg) (t c : ByteArray) : List Pg := l.filter fun x => !isOf t c x
def relC (l : List Pg) (t c : ByteArray) : Int := if (relL l t c).length = l.length then 4 else 0
/-- Does x go ahead of a, which came earlier? -/
def less (x a : Pg) : Bool := if x.held && !a.held then true else if a.held && !x.held then false else decide (x.day < a.day)
/-- One more, from behind. -/
def insR : List Pg → Pg → List Pg
  | [], x => [x]
  | a :: r, x => if less x a then a :: insR r x else x :: a :: r
def rIns (l : List Pg) (x : Pg) : List Pg := (insR l.reverse x).reverse
def rankOf (r : List Pg) : List Pg := r.foldl rIns []
/-- What each one gets, down the rank. -/
def payE : List Pg → Int → List (ByteArray × Int)
  | [], _ => []
  | p :: r, s => if min p.amt s = 0 then payE r s else (p.cred, min p.amt s) :: payE r (s - min p.amt s)
def payS : List Pg → Int → Int
  | [], s => s
  | p :: r, s => payS r (s - min p.amt s)
def gotC (e : List (ByteArray × Int)) (c : ByteArray) : Int := match e with
  | [] => 0
  | p :: r => if p.1 = c then p.2 else gotC r c
/-- What is left of the pledges. -/
def paidL (l : List Pg) (t : ByteArray) (e : List (ByteArray × Int)) : List Pg :=
  l.filterMap fun x => if x.thing = t then (if x.amt - gotC e x.cred = 0 then none else some { x with amt := x.amt - gotC e x.cred }) else some x
/-- What holds of pledges. -/
structure LnOk (l : List Pg) : Prop where
  fit : ∀ x ∈ l, (0 ≤ x.day ∧ x.day ≤ 1048576) ∧ 1 ≤ x.amt ∧ x.amt ≤ 1099511627776 ∧ nameOk x.thing = true ∧ nameOk x.cred = true
  one : ∀ x ∈ l, ∀ y ∈ l, x.thing = y.thing → x.debtor = y.debtor
  creds : l.Pairwise fun x y => x.thing = y.thing → x.cred ≠ y.cred
  helds : l.Pairwise fun x y => x.thing = y.thing → ¬ (x.held = true ∧ y.held = true)
theorem ofT_mem {l : List Pg} {t : ByteArray} {x : Pg} : x ∈ ofT l t ↔ x ∈ l ∧ x.thing = t := by simp [ofT]
theorem ofT_append (l m : List Pg) (t : ByteArray) : ofT (l ++ m) t = ofT l t ++ ofT m t := List.filter_append ..
theorem ofT_one (p : Pg) (t : ByteArray) : ofT [p] t = if p.thing = t then [p] else [] := by
  by_cases h : p.thing = t <;> simp [ofT, h]
theorem lnOk_nil : LnOk [] := ⟨by simp, by simp, List.Pairwise.nil, List.Pairwise.nil⟩
theorem LnOk.sub {l m : List Pg} (h : LnOk l) (hs : m.Sublist l) : LnOk m :=
  ⟨fun x hx => h.fit x (hs.subset hx), fun x hx y hy => h.one x (hs.subset hx) y (hs.subset hy), h.creds.sublist hs, h.helds.sublist hs⟩
theorem mayP_fit {p : Pg} (h : mayP p = true) : (0 ≤ p.day ∧ p.day ≤ 1048576) ∧ 1 ≤ p.amt ∧ p.amt ≤ 1099511627776 ∧ nameOk p.thing = true ∧ nameOk p.cred = true := by
  simp only [mayP, Bool.and_eq_true, decide_eq_true_eq] at h
  obtain ⟨h1, _, h3, _, h5, h6, h7, h8⟩ := h
  exact ⟨⟨h5, h6⟩, h7, h8, h1, h3⟩
theorem wrongT_zero {r : List Pg} {n : Nat} {p : Pg} (h : wrongT r n p = 0) : (∀ x ∈ r, x.debtor = p.debtor) ∧ (∀ x ∈ r, x.cred ≠ p.cred) ∧ (∀ x ∈ r, ¬ (x.held = true ∧ p.held = true)) ∧ n < 4096 := by
  unfold wrongT at h
  split at h
  · cases h
  split at h
  · cases h
  split at h
  · cases h
  split at h
  · cases h
  rename_i h1 h2 h3 h4
  simp only [List.any_eq_true, not_exists, not_and, Bool.not_eq_true', decide_eq_false_iff_not, Classical.not_not, decide_eq_true_eq, Bool.and_eq_true] at h1 h2 h3
  exact ⟨h1, h2, fun x hx h => h3 h.2 x hx h.1, by omega⟩
theorem pledgeL_ok {l : List Pg} (h : LnOk l) (p : Pg) : LnOk (pledgeL l p) := by
  unfold pledgeL
  split
  · rename_i h0
    rw [pledgeC] at h0
    split at h0
    · rename_i hm
      obtain ⟨h1, h2, h3, _⟩ := wrongT_zero h0
      refine ⟨?_, ?_, ?_, ?_⟩
      · intro x hx
        rcases List.mem_append.1 hx with h' | h'
        · exact h.fit x h'
        · rw [List.mem_singleton.1 h']; exact mayP_fit hm
      · intro x hx y hy e
        rcases List.mem_append.1 hx with h' | h' <;> rcases List.mem_append.1 hy with h'' | h''
        · exact h.one x h' y h'' e
        · obtain rfl := List.mem_singleton.1 h''
          exact h1 x (ofT_mem.2 ⟨h', e⟩)
        · obtain rfl := List.mem_singleton.1 h'
          exact (h1 y (ofT_mem.2 ⟨h'', e.symm⟩)).symm
        · rw [List.mem_singleton.1 h', List.mem_singleton.1 h'']
      · rw [List.pairwise_append]
        exact ⟨h.creds, List.pairwise_singleton _ _, fun x hx y hy e => by
          obtain rfl := List.mem_singleton.1 hy
          exact h2 x (ofT_mem.2 ⟨hx, e⟩)⟩
      · rw [List.pairwise_append]
        exact ⟨h.helds, List.pairwise_singleton _ _, fun x hx y hy e => by
          obtain rfl := List.mem_singleton.1 hy
          exact h3 x (ofT_mem.2 ⟨hx, e⟩)⟩
    · cases h0
  · exact h
theorem relL_ok {l : List Pg} (h : LnOk l) (t c : ByteArray) : LnOk (relL l t c) := h.sub List.filter_sublist
/-! the rank -/
theorem insR_perm (l : List Pg) (x : Pg) : (insR l x).Perm (x :: l) := by
  induction l with
  | nil => exact List.Perm.refl _
  | cons a r ih =>
    rw [insR]
    split
    · exact (ih.cons a).trans (List.Perm.swap _ _ _)
    · exact List.Perm.refl _
theorem rIns_perm (l : List Pg) (x : Pg) : (rIns l x).Perm (l ++ [x]) := by
  unfold rIns
  refine (List.reverse_perm _).trans ((insR_perm _ _).trans ?_)
  exact ((List.reverse_perm l).cons x).trans (List.perm_append_comm (l₁ := [x]) (l₂ := l))
theorem foldl_rIns_perm (r : List Pg) : ∀ l, (r.foldl rIns l).Perm (l ++ r) := by
  induction r with
  | nil => intro l; simp
  | cons x r ih =>
    intro l
    rw [List.foldl_cons]
    refine (ih _).trans ?_
    refine ((rIns_perm l x).append_right r).trans ?_
    rw [List.append_assoc]
    exact List.Perm.refl _
theorem rankOf_perm (r : List Pg) : (rankOf r).Perm r := by simpa [rankOf] using foldl_rIns_perm r []
theorem rankOf_snoc (r : List Pg) (x : Pg) : rankOf (r ++ [x]) = rIns (rankOf r) x := by rw [rankOf, List.foldl_append]; rfl
/-! the paying -/
theorem payE_keys {r : List Pg} {s : Int} {e : ByteArray × Int} (h : e ∈ payE r s) : ∃ x ∈ r, x.cred = e.1 := by
  induction r generalizing s with
  | nil => simp [payE] at h
  | cons p r ih =>
    rw [payE] at h
    split at h
    · obtain ⟨x, hx, h1⟩ := ih h
      exact ⟨x, List.mem_cons_of_mem _ hx, h1⟩
    · rcases List.mem_cons.1 h with rfl | h
      · exact ⟨p, List.mem_cons_self, rfl⟩
      · obtain ⟨x, hx, h1⟩ := ih h
        exact ⟨x, List.mem_cons_of_mem _ hx, h1⟩
theorem gotC_none {e : List (ByteArray × Int)} {c : ByteArray} (h : ∀ p ∈ e, p.1 ≠ c) : gotC e c = 0 := by
  induction e with
  | nil => rfl
  | cons p r ih =>
    rw [gotC, if_neg (h p List.mem_cons_self)]
    exact ih fun q hq => h q (List.mem_cons_of_mem _ hq)
theorem gotC_range {r : List Pg} {s : Int} (h0 : 0 ≤ s) (hr : ∀ x ∈ r, 1 ≤ x.amt) (hn : (r.map Pg.cred).Nodup) {x : Pg} (hx : x ∈ r) : 0 ≤ gotC (payE r s) x.cred ∧ gotC (payE r s) x.cred ≤ x.amt := by
  induction r generalizing s with
  | nil => cases hx
  | cons p r ih =>
    have hp := hr p List.mem_cons_self
    simp only [List.map_cons, List.nodup_cons] at hn
    have hm : 0 ≤ min p.amt s ∧ min p.amt s ≤ s ∧ min p.amt s ≤ p.amt := by omega
    rcases List.mem_cons.1 hx with rfl | hx'
    · have hno : gotC (payE r s) x.cred = 0 := gotC_none fun q hq e => by
        obtain ⟨y, hy, hye⟩ := payE_keys hq
        exact hn.1 (List.mem_map.2 ⟨y, hy, hye.trans e⟩)
      rw [payE]
      split
      · rw [hno]; omega
      · rw [gotC, if_pos rfl]; omega
    · have hne : ¬ p.cred = x.cred := fun e => hn.1 (List.mem_map.2 ⟨x, hx', e.symm⟩)
      rw [payE]
      split
      · exact ih h0 (fun y hy => hr y (List.mem_cons_of_mem _ hy)) hn.2 hx'
      · rw [gotC, if_neg hne]
        exact ih (by omega) (fun y hy => hr y (List.mem_cons_of_mem _ hy)) hn.2 hx'
theorem payS_range {r : List Pg} {s : Int} (h0 : 0 ≤ s) (hr : ∀ x ∈ r, 1 ≤ x.amt) : 0 ≤ payS r s ∧ payS r s ≤ s := by
  induction r generalizing s with
  | nil => exact ⟨h0, Int.le_refl _⟩
  | cons p r ih =>
    have hp := hr p List.mem_cons_self
    have := ih (s := s - min p.amt s) (by omega) (fun y hy => hr y (List.mem_cons_of_mem _ hy))
    rw [payS]
    omega
theorem cred_nodup {l : List Pg} (h : LnOk l) (t : ByteArray) : ((ofT l t).map Pg.cred).Nodup := by
  rw [List.nodup_iff_pairwise_ne, List.pairwise_map]
  refine (h.creds.sublist (List.filter_sublist (p := fun x => decide (x.thing = t)))).imp_of_mem fun {x y} hx hy hxy => ?_
  exact hxy ((ofT_mem.1 hx).2.trans (ofT_mem.1 hy).2.symm)
theorem rank_nodup {l : List Pg} (h : LnOk l) (t : ByteArray) : ((rankOf (ofT l t)).map Pg.cred).Nodup := ((rankOf_perm (ofT l t)).map Pg.cred).nodup_iff.2 (cred_nodup h t)
end Go.Proofs.YtbigoifpfkdkjaaGreat.Sc
