/- Deeds, one behind the other; plainly. -/
import Derived.Test.YtnlfhncbnfmccaaRefPay26
namespace Go.Proofs.Ytnlfhncbnfmccaa.Sc
open Go Go.RowKit
set_option maxRecDepth 100000

structure Dd where
  kind : Int
  p : Pg
  sum : Int
def Dd.cells (d : Dd) : Array Value := #[.int .u8 d.kind, .string d.p.thing, .string d.p.debtor, .string d.p.cred, .int .i64 d.p.day, .int .i64 d.p.amt, .bool d.p.held, .int .i64 d.sum]
def Dd.row (d : Dd) : List Value := d.cells.toList
def badS (s : Int) : Bool := decide (s < 0) || decide (1099511627776 < s)
/-- The pledges behind a deed. -/
def dstep (l : List Pg) (d : Dd) : List Pg :=
  if d.kind = 0 ∨ d.kind = 1 ∨ d.kind = 2 then pledgeL l d.p
  else if d.kind = 3 then relL l d.p.thing d.p.cred
  else if d.kind = 4 then (if badS d.sum = true then l else if ofT l d.p.thing = [] then l else paidL l d.p.thing (payE (rankOf (ofT l d.p.thing)) d.sum))
  else l
def deeds (ds : List Dd) : List Pg := ds.foldl dstep []
theorem pledge_same (l : List Pg) (p : Pg) : pledgeK (ofT l) l.length p = pledgeC l p := rfl
theorem pledge_rows (l : List Pg) (p : Pg) : pledgeR (ofT l) l.length p = ofT (pledgeL l p) := by
  rw [pledgeR, pledgeL, pledge_same]
  split
  · funext u
    rw [ofT_append, ofT_one]
    by_cases h : u = p.thing
    · subst h; rw [if_pos rfl, if_pos rfl]
    · rw [if_neg h, if_neg (fun e => h e.symm), List.append_nil]
  · rfl
theorem pledge_num (l : List Pg) (p : Pg) : pledgeN (ofT l) l.length p = (pledgeL l p).length := by
  rw [pledgeN, pledgeL, pledge_same]
  split
  · simp
  · rfl
theorem rel_rows (l : List Pg) (t c : ByteArray) : keepR (ofT l) t (notC c) = ofT (relL l t c) := by
  funext u
  unfold keepR ofT relL
  by_cases h : u = t
  · subst h
    rw [if_pos rfl, List.filter_filter, List.filter_filter]
    refine List.filter_congr fun x _ => ?_
    unfold notC isOf
    by_cases h1 : x.thing = u <;> by_cases h2 : x.cred = c <;> simp [h1, h2]
  · rw [if_neg h, List.filter_filter]
    refine List.filter_congr fun x _ => ?_
    unfold isOf
    by_cases h1 : x.thing = u
    · have : ¬ x.thing = t := fun e => h (h1.symm.trans e)
      simp [h1, h]
    · simp [h1]
theorem rel_num (l : List Pg) (t c : ByteArray) : (relL l t c).length + (ofT l t).length = l.length + ((ofT l t).filter (notC c)).length := by
  induction l with
  | nil => rfl
  | cons x r ih =>
    unfold relL ofT at *
    by_cases h1 : x.thing = t
    · by_cases h2 : x.cred = c
      · rw [List.filter_cons_of_neg (by simp [isOf, h1, h2]), List.filter_cons_of_pos (by simp [h1]), List.filter_cons_of_neg (by simp [notC, h2])]
        simp only [List.length_cons]; omega
      · rw [List.filter_cons_of_pos (by simp [isOf, h2]), List.filter_cons_of_pos (by simp [h1]), List.filter_cons_of_pos (by simp [notC, h2])]
        simp only [List.length_cons]; omega
    · rw [List.filter_cons_of_pos (by simp [isOf, h1]), List.filter_cons_of_neg (by simp [h1])]
      simp only [List.length_cons]; omega
theorem ofT_le (l : List Pg) (t : ByteArray) : (ofT l t).length ≤ l.length := List.length_filter_le _ _
theorem rel_count (l : List Pg) (t c : ByteArray) : l.length - ((ofT l t).length - ((ofT l t).filter (notC c)).length) = (relL l t c).length := by
  have h1 := rel_num l t c
  have h2 := ofT_le l t
  have h3 := List.length_filter_le (notC c) (ofT l t)
  omega
theorem rel_code (l : List Pg) (t c : ByteArray) : relK (ofT l) t c = relC l t c := by
  have h1 := rel_num l t c
  rw [relK, relC]
  by_cases h : (relL l t c).length = l.length
  · rw [if_pos h, if_pos (by omega)]
  · rw [if_neg h, if_neg (by omega)]
theorem paid_num (l : List Pg) (t : ByteArray) (e : List (ByteArray × Int)) : (paidL l t e).length + (ofT l t).length = l.length + (ofT (paidL l t e) t).length := by
  induction l with
  | nil => rfl
  | cons x r ih =>
    unfold paidL ofT at *
    rw [List.filterMap_cons]
    by_cases h1 : x.thing = t
    · rw [List.filter_cons_of_pos (by simp [h1])]
      by_cases hz : x.amt - gotC e x.cred = 0
      · simp only [if_pos h1, if_pos hz, List.length_cons]; omega
      · simp only [if_pos h1, if_neg hz]
        rw [List.filter_cons_of_pos (by simp [h1])]
        simp only [List.length_cons]; omega
    · simp only [if_neg h1]
      rw [List.filter_cons_of_neg (by simp [h1]), List.filter_cons_of_neg (by simp [h1])]
      simp only [List.length_cons]; omega
theorem paid_rows (l : List Pg) (t : ByteArray) (e : List (ByteArray × Int)) (h : ∀ x ∈ ofT l t, 0 ≤ x.amt - gotC e x.cred) : keepR (fun u => if u = t then (ofT l t).map (subP e) else ofT l u) t live = ofT (paidL l t e) := by
  funext u
  unfold keepR
  by_cases hu : u = t
  · subst hu
    rw [if_pos rfl, ofT_paid l u e h]
    show List.filter live (if u = u then _ else _) = _
    rw [if_pos rfl]
  · rw [if_neg hu, ofT_paid_other l hu e]
    show (if u = t then _ else _) = _
    rw [if_neg hu]
theorem paid_count (l : List Pg) (t : ByteArray) (e : List (ByteArray × Int)) (h : ∀ x ∈ ofT l t, 0 ≤ x.amt - gotC e x.cred) : l.length - ((ofT l t).length - (((ofT l t).map (subP e)).filter live).length) = (paidL l t e).length := by
  have h1 := paid_num l t e
  rw [ofT_paid l t e h] at h1
  have h2 := ofT_le l t
  have h3 := List.length_filter_le live ((ofT l t).map (subP e))
  rw [List.length_map] at h3
  omega
theorem paid_ok {l : List Pg} (h : LnOk l) (t : ByteArray) {e : List (ByteArray × Int)} (hg : ∀ x ∈ ofT l t, 0 ≤ gotC e x.cred ∧ gotC e x.cred ≤ x.amt) : LnOk (paidL l t e) := by
  have hm : ∀ x ∈ l, ∀ y, (if x.thing = t then (if x.amt - gotC e x.cred = 0 then none else some { x with amt := x.amt - gotC e x.cred }) else some x) = some y → y.thing = x.thing ∧ y.debtor = x.debtor ∧ y.cred = x.cred ∧ y.held = x.held ∧ y.day = x.day ∧ 1 ≤ y.amt ∧ y.amt ≤ 1099511627776 := by
    intro x hx y hy
    have hf := h.fit x hx
    split at hy
    · rename_i hxt
      have h1 := hg x (ofT_mem.2 ⟨hx, hxt⟩)
      split at hy
      · cases hy
      · obtain rfl := Option.some.inj hy
        exact ⟨rfl, rfl, rfl, rfl, rfl, by show 1 ≤ x.amt - _; omega, by show x.amt - _ ≤ _; omega⟩
    · obtain rfl := Option.some.inj hy
      exact ⟨rfl, rfl, rfl, rfl, rfl, hf.2.1, hf.2.2.1⟩
  refine ⟨?_, ?_, ?_, ?_⟩
  · intro y hy
    obtain ⟨x, hx, hxy⟩ := List.mem_filterMap.1 hy
    have h1 := hm x hx y hxy
    have hf := h.fit x hx
    rw [h1.1, h1.2.2.1, h1.2.2.2.2.1]
    exact ⟨hf.1, h1.2.2.2.2.2.1, h1.2.2.2.2.2.2, hf.2.2.2⟩
  · intro y hy y' hy' he
    obtain ⟨x, hx, hxy⟩ := List.mem_filterMap.1 hy
    obtain ⟨x', hx', hxy'⟩ := List.mem_filterMap.1 hy'
    have h1 := hm x hx y hxy
    have h2 := hm x' hx' y' hxy'
    rw [h1.2.1, h2.2.1]
    exact h.one x hx x' hx' (by rw [← h1.1, ← h2.1]; exact he)
  · rw [paidL, List.pairwise_filterMap]
    refine h.creds.imp_of_mem fun {x x'} hx hx' hxx y hy y' hy' he => ?_
    have h1 := hm x hx y hy
    have h2 := hm x' hx' y' hy'
    rw [h1.2.2.1, h2.2.2.1]
    exact hxx (by rw [← h1.1, ← h2.1]; exact he)
  · rw [paidL, List.pairwise_filterMap]
    refine h.helds.imp_of_mem fun {x x'} hx hx' hxx y hy y' hy' he => ?_
    have h1 := hm x hx y hy
    have h2 := hm x' hx' y' hy'
    rw [h1.2.2.2.1, h2.2.2.2.1]
    exact hxx (by rw [← h1.1, ← h2.1]; exact he)
theorem got_ok {l : List Pg} (h : LnOk l) (t : ByteArray) {s : Int} (hs : 0 ≤ s) : ∀ x ∈ ofT l t, 0 ≤ gotC (payE (rankOf (ofT l t)) s) x.cred ∧ gotC (payE (rankOf (ofT l t)) s) x.cred ≤ x.amt := fun _ hx =>
  gotC_range hs (fun y hy => (h.fit y (ofT_mem.1 ((rankOf_perm _).mem_iff.1 hy)).1).2.1) (rank_nodup h t) ((rankOf_perm _).mem_iff.2 hx)
theorem badS_no {s : Int} (h : badS s = false) : 0 ≤ s ∧ s ≤ 1099511627776 := by
  simp only [badS, Bool.or_eq_false_iff, decide_eq_false_iff_not] at h
  omega
theorem dstep_ok {l : List Pg} (h : LnOk l) (d : Dd) : LnOk (dstep l d) := by
  unfold dstep
  split
  · exact pledgeL_ok h d.p
  split
  · exact relL_ok h _ _
  split
  · split
    · exact h
    · split
      · exact h
      · rename_i h1 _
        exact paid_ok h _ (got_ok h _ (badS_no (by simpa using h1)).1)
  · exact h
theorem dstep_len (l : List Pg) (d : Dd) : (dstep l d).length ≤ l.length + 1 := by
  unfold dstep
  split
  · unfold pledgeL
    split
    · simp
    · omega
  split
  · exact Nat.le_trans (List.length_filter_le _ _) (by omega)
  split
  · split
    · omega
    · split
      · omega
      · exact Nat.le_trans (paidL_len _ _ _) (by omega)
  · omega
theorem deeds_snoc {ds : List Dd} {k : Nat} (h : k < ds.length) : deeds (ds.take (k + 1)) = dstep (deeds (ds.take k)) ds[k] := by
  rw [List.take_succ_eq_append_getElem h, deeds, List.foldl_append]
  rfl
theorem foldl_ok : ∀ (ds : List Dd) (l : List Pg), LnOk l → LnOk (ds.foldl dstep l)
  | [], _, h => h
  | d :: r, _, h => foldl_ok r _ (dstep_ok h d)
theorem foldl_len : ∀ (ds : List Dd) (l : List Pg), (ds.foldl dstep l).length ≤ l.length + ds.length
  | [], _ => Nat.le_refl _
  | d :: r, l => by
    have h1 := foldl_len r (dstep l d)
    have h2 := dstep_len l d
    rw [List.foldl_cons, List.length_cons]
    omega
theorem deeds_ok (ds : List Dd) : LnOk (deeds ds) := foldl_ok ds [] lnOk_nil
theorem deeds_len (ds : List Dd) : (deeds ds).length ≤ ds.length := by simpa [deeds] using foldl_len ds []
end Go.Proofs.Ytnlfhncbnfmccaa.Sc
