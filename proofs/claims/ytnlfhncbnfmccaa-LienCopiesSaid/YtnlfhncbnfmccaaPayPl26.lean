/- What is paid down the rank, step by step; plainly. -/
import Derived.Test.YtnlfhncbnfmccaaLn26
import Derived.Test.YtnlfhncbnfmccaaMapD
namespace Go.Proofs.Ytnlfhncbnfmccaa.Sc
open Go Go.RowKit
set_option maxRecDepth 100000

theorem payS_snoc (l : List Pg) (x : Pg) (s : Int) : payS (l ++ [x]) s = payS l s - min x.amt (payS l s) := by
  induction l generalizing s with
  | nil => rfl
  | cons p r ih => rw [List.cons_append, payS, payS, ih]
theorem payE_snoc (l : List Pg) (x : Pg) (s : Int) : payE (l ++ [x]) s = if min x.amt (payS l s) = 0 then payE l s else payE l s ++ [(x.cred, min x.amt (payS l s))] := by
  induction l generalizing s with
  | nil => rfl
  | cons p r ih =>
    rw [List.cons_append, payE, payE, payS]
    by_cases h : min p.amt s = 0
    · rw [if_pos h, if_pos h, h, Int.sub_zero, ih]
    · rw [if_neg h, if_neg h, ih]
      split <;> rfl
theorem gotC_snoc {e : List (ByteArray × Int)} {p : ByteArray × Int} (h : ∀ q ∈ e, q.1 ≠ p.1) (c : ByteArray) : gotC (e ++ [p]) c = if p.1 = c then p.2 else gotC e c := by
  induction e with
  | nil => rfl
  | cons q r ih =>
    have hq := h q List.mem_cons_self
    rw [List.cons_append, gotC, ih (fun q hq => h q (List.mem_cons_of_mem _ hq)), gotC]
    by_cases h1 : q.1 = c
    · rw [if_pos h1, if_pos h1, if_neg]
      rintro rfl
      exact hq h1
    · rw [if_neg h1, if_neg h1]
/-- The map of what each one got. -/
def GotOf (gs : Mp.Ents) (e : List (ByteArray × Int)) : Prop := ∀ c, (Mp.mget gs c).getD (.int .i64 0) = .int .i64 (gotC e c)
theorem gotOf_nil : GotOf [] [] := fun _ => rfl
theorem gotOf_put {gs : Mp.Ents} {e : List (ByteArray × Int)} (h : GotOf gs e) {c : ByteArray} {m : Int} (hn : ∀ q ∈ e, q.1 ≠ c) : GotOf (Mp.mput gs c (.int .i64 m)) (e ++ [(c, m)]) := fun d => by
  rw [gotC_snoc (p := (c, m)) hn]
  by_cases hd : c = d
  · subst hd
    rw [Mp.mget_mput_same, if_pos rfl]; rfl
  · rw [Mp.mget_mput_other _ _ (fun e => hd e.symm), if_neg hd]
    exact h d
/-- A pledge less what its creditor got. -/
def subP (e : List (ByteArray × Int)) (x : Pg) : Pg := { x with amt := x.amt - gotC e x.cred }
def live (x : Pg) : Bool := decide (0 < x.amt)
def entRow (p : ByteArray × Int) : List Value := [.string p.1, .string ⟨#[]⟩, .int .i64 p.2]
def entCells (l : List (ByteArray × Int)) : List Value := l.flatMap entRow
theorem pre_cred {l : List Pg} {k : Nat} (h : k < l.length) (hn : (l.map Pg.cred).Nodup) (s : Int) : ∀ q ∈ payE (l.take k) s, q.1 ≠ l[k].cred := fun q hq e => by
  obtain ⟨x, hx, hxe⟩ := payE_keys hq
  obtain ⟨j, hj, rfl⟩ := List.getElem_of_mem hx
  have hjk : j < k := by rw [List.length_take] at hj; omega
  rw [List.getElem_take] at hxe
  have h1 : j < (l.map Pg.cred).length := by simpa using (by omega : j < l.length)
  have h2 : k < (l.map Pg.cred).length := by simpa using h
  have := (List.pairwise_iff_getElem.1 hn) j k h1 h2 hjk
  rw [List.getElem_map, List.getElem_map] at this
  exact this (hxe.trans e)
/-- What is left of a thing's pledges. -/
theorem ofT_paid (l : List Pg) (t : ByteArray) (e : List (ByteArray × Int)) (h : ∀ x ∈ ofT l t, 0 ≤ x.amt - gotC e x.cred) : ofT (paidL l t e) t = ((ofT l t).map (subP e)).filter live := by
  induction l with
  | nil => rfl
  | cons x r ih =>
    have ih' := ih fun y hy => h y (by
      obtain ⟨h1, h2⟩ := ofT_mem.1 hy
      exact ofT_mem.2 ⟨List.mem_cons_of_mem _ h1, h2⟩)
    unfold paidL ofT at *
    by_cases hx : x.thing = t
    · have h0 := h x (by simp [hx])
      rw [List.filter_cons_of_pos (by simp [hx]), List.map_cons, List.filterMap_cons]
      by_cases hz : x.amt - gotC e x.cred = 0
      · have hl : live (subP e x) = false := decide_eq_false (by show ¬ 0 < x.amt - gotC e x.cred; omega)
        rw [List.filter_cons_of_neg (by rw [hl]; exact Bool.false_ne_true)]
        simp only [if_pos hx, if_pos hz]
        exact ih'
      · have hl : live (subP e x) = true := decide_eq_true (by show 0 < x.amt - gotC e x.cred; omega)
        rw [List.filter_cons_of_pos hl]
        simp only [if_pos hx, if_neg hz]
        rw [List.filter_cons_of_pos (by simp [hx]), ih']
        rfl
    · rw [List.filter_cons_of_neg (by simp [hx]), List.filterMap_cons]
      simp only [if_neg hx]
      rw [List.filter_cons_of_neg (by simp [hx])]
      exact ih'
theorem ofT_paid_other (l : List Pg) {t u : ByteArray} (hu : ¬ u = t) (e : List (ByteArray × Int)) : ofT (paidL l t e) u = ofT l u := by
  induction l with
  | nil => rfl
  | cons x r ih =>
    unfold paidL ofT at *
    rw [List.filterMap_cons]
    by_cases hx : x.thing = t
    · have hxu : ¬ x.thing = u := fun e => hu (e.symm.trans hx)
      rw [List.filter_cons_of_neg (by simp [hxu])]
      by_cases hz : x.amt - gotC e x.cred = 0
      · simp only [if_pos hx, if_pos hz]; exact ih
      · simp only [if_pos hx, if_neg hz]
        rw [List.filter_cons_of_neg (by simp [hxu])]
        exact ih
    · simp only [if_neg hx]
      by_cases hxu : x.thing = u
      · rw [List.filter_cons_of_pos (by simp [hxu]), List.filter_cons_of_pos (by simp [hxu]), ih]
      · rw [List.filter_cons_of_neg (by simp [hxu]), List.filter_cons_of_neg (by simp [hxu]), ih]
end Go.Proofs.Ytnlfhncbnfmccaa.Sc
