/- What the laws say of deeds, ranks and payments; plainly. -/
import Derived.Test.YtnlfhncbnfmccaaStepPl26
import Derived.Test.YtnlfhncbnfmccaaTurn26
namespace Go.Proofs.Ytnlfhncbnfmccaa.Sc
open Go Go.RowKit
set_option maxRecDepth 100000

/- What is left of a rank. -/
def restR : List Pg → Int → List Pg
  | [], _ => []
  | p :: r, s => if p.amt - min p.amt s = 0 then restR r (s - min p.amt s) else { p with amt := p.amt - min p.amt s } :: restR r (s - min p.amt s)
def AmtOk (r : List Pg) : Prop := ∀ x ∈ r, 1 ≤ x.amt
theorem AmtOk.tail {p : Pg} {r : List Pg} (h : AmtOk (p :: r)) : AmtOk r := fun x hx => h x (List.mem_cons_of_mem _ hx)
theorem payE_zero {r : List Pg} (h : AmtOk r) : payE r 0 = [] := by
  induction r with
  | nil => rfl
  | cons p r ih =>
    have h1 := h p List.mem_cons_self
    have hm : min p.amt 0 = 0 := by omega
    rw [payE, if_pos hm]
    exact ih h.tail
theorem payS_zero {r : List Pg} (h : AmtOk r) : payS r 0 = 0 := by
  induction r with
  | nil => rfl
  | cons p r ih =>
    have h1 := h p List.mem_cons_self
    have hm : min p.amt 0 = 0 := by omega
    rw [payS, hm]
    exact ih h.tail
theorem restR_zero {r : List Pg} (h : AmtOk r) : restR r 0 = r := by
  induction r with
  | nil => rfl
  | cons p r ih =>
    have h1 := h p List.mem_cons_self
    have hm : min p.amt 0 = 0 := by omega
    rw [restR, hm, if_neg (by omega), Int.sub_zero, Int.sub_zero, ih h.tail]
theorem restR_ok {r : List Pg} (h : AmtOk r) : ∀ {s : Int}, 0 ≤ s → AmtOk (restR r s) := by
  induction r with
  | nil => exact fun _ x hx => by cases hx
  | cons p r ih =>
    intro s hs
    have h1 := h p List.mem_cons_self
    rw [restR]
    have hr := ih h.tail (s := s - min p.amt s) (by omega)
    split
    · exact hr
    · intro x hx
      rcases List.mem_cons.1 hx with rfl | hx
      · show 1 ≤ p.amt - min p.amt s
        omega
      · exact hr x hx
def amts (r : List Pg) : Int := (r.map Pg.amt).sum
def sums (e : List (ByteArray × Int)) : Int := (e.map Prod.snd).sum
theorem amts_cons (p : Pg) (r : List Pg) : amts (p :: r) = p.amt + amts r := by simp [amts]
theorem sums_cons (p : ByteArray × Int) (r : List (ByteArray × Int)) : sums (p :: r) = p.2 + sums r := by simp [sums]
theorem sums_payE (r : List Pg) : ∀ s, sums (payE r s) = s - payS r s := by
  induction r with
  | nil => intro s; simp [payE, payS, sums]
  | cons p r ih =>
    intro s
    rw [payE, payS]
    split
    · rename_i h
      rw [ih, h]; simp
    · rw [sums_cons, ih]; show min p.amt s + _ = _; omega
theorem amts_restR (r : List Pg) : ∀ s, amts (restR r s) = amts r - (s - payS r s) := by
  induction r with
  | nil => intro s; simp [restR, payS, amts]
  | cons p r ih =>
    intro s
    rw [restR, payS, amts_cons]
    split
    · rename_i h
      rw [ih]; omega
    · rw [amts_cons, ih]; show p.amt - min p.amt s + _ = _; omega
theorem restR_none {r : List Pg} (h : AmtOk r) : ∀ {s : Int}, 0 ≤ s → payS r s ≠ 0 → restR r s = [] := by
  induction r with
  | nil => exact fun _ _ => rfl
  | cons p r ih =>
    intro s hs hp
    have h1 := h p List.mem_cons_self
    rw [payS] at hp
    rw [restR]
    by_cases hle : p.amt ≤ s
    · rw [if_pos (by omega)]
      exact ih h.tail (by omega) hp
    · rw [show s - min p.amt s = 0 by omega, payS_zero h.tail] at hp
      exact absurd rfl hp
/-- What each one gets: as many as are ahead, wholly but the last. -/
def PayOk (r : List Pg) (e : List (ByteArray × Int)) : Prop := e.length ≤ r.length ∧ ∀ i (h : i < e.length) (h' : i < r.length), e[i].1 = r[i].cred ∧ 1 ≤ e[i].2 ∧ e[i].2 ≤ r[i].amt ∧ (i + 1 < e.length → e[i].2 = r[i].amt)
theorem payE_ok {r : List Pg} (h : AmtOk r) : ∀ {s : Int}, 0 ≤ s → PayOk r (payE r s) := by
  induction r with
  | nil => exact fun _ => ⟨Nat.le_refl _, fun i h => by cases h⟩
  | cons p r ih =>
    intro s hs
    have h1 := h p List.mem_cons_self
    rw [payE]
    split
    · rename_i h0
      obtain rfl : s = 0 := by omega
      rw [payE_zero h.tail]
      exact ⟨Nat.zero_le _, fun i h => by cases h⟩
    · rename_i h0
      obtain ⟨h2, h3⟩ := ih h.tail (s := s - min p.amt s) (by omega)
      refine ⟨by simpa using h2, fun i hi hi' => ?_⟩
      match i, hi, hi' with
      | 0, hi, hi' =>
        refine ⟨rfl, by show 1 ≤ min p.amt s; omega, by show min p.amt s ≤ p.amt; omega, fun hl => ?_⟩
        show min p.amt s = p.amt
        by_cases hle : p.amt ≤ s
        · omega
        · rw [show s - min p.amt s = 0 by omega, payE_zero h.tail] at hl
          simp at hl
      | i + 1, hi, hi' =>
        have h4 := h3 i (by simpa using hi) (by simpa using hi')
        simp only [List.getElem_cons_succ]
        exact ⟨h4.1, h4.2.1, h4.2.2.1, fun hl => h4.2.2.2 (by simpa using hl)⟩
/- In two parts. -/
theorem payS_two {r : List Pg} (h : AmtOk r) : ∀ {a b : Int}, 0 ≤ a → 0 ≤ b → payS r (a + b) = payS r a + payS (restR r a) b := by
  induction r with
  | nil => exact fun _ _ => rfl
  | cons p r ih =>
    intro a b ha hb
    have h1 := h p List.mem_cons_self
    rw [payS, payS, restR]
    by_cases hle : p.amt ≤ a
    · rw [if_pos (by omega), show a + b - min p.amt (a + b) = (a - min p.amt a) + b by omega]
      exact ih h.tail (by omega) hb
    · rw [if_neg (by omega), show a - min p.amt a = 0 by omega, payS_zero h.tail, restR_zero h.tail, payS, show min p.amt a = a by omega, Int.zero_add]
      exact congrArg (payS r) (by show a + b - min p.amt (a + b) = b - min (p.amt - a) b; omega)
theorem restR_two {r : List Pg} (h : AmtOk r) : ∀ {a b : Int}, 0 ≤ a → 0 ≤ b → restR r (a + b) = restR (restR r a) b := by
  induction r with
  | nil => exact fun _ _ => rfl
  | cons p r ih =>
    intro a b ha hb
    have h1 := h p List.mem_cons_self
    rw [restR, restR]
    by_cases hle : p.amt ≤ a
    · rw [if_pos (show p.amt - min p.amt a = 0 by omega), if_pos (by omega), show a + b - min p.amt (a + b) = (a - min p.amt a) + b by omega]
      exact ih h.tail (by omega) hb
    · rw [if_neg (show ¬ p.amt - min p.amt a = 0 by omega), show a - min p.amt a = 0 by omega, restR_zero h.tail, show min p.amt a = a by omega, restR]
      have e1 : a + b - min p.amt (a + b) = b - min (p.amt - a) b := by omega
      have e2 : p.amt - min p.amt (a + b) = p.amt - a - min (p.amt - a) b := by omega
      rw [e1, e2]
def sumW (e : List (ByteArray × Int)) (who : ByteArray) : Int := match e with
  | [] => 0
  | p :: r => (if p.1 = who then p.2 else 0) + sumW r who
theorem sumW_two {r : List Pg} (h : AmtOk r) (who : ByteArray) : ∀ {a b : Int}, 0 ≤ a → 0 ≤ b → sumW (payE r a) who + sumW (payE (restR r a) b) who = sumW (payE r (a + b)) who := by
  induction r with
  | nil => exact fun _ _ => rfl
  | cons p r ih =>
    intro a b ha hb
    have h1 := h p List.mem_cons_self
    rw [payE, payE, restR]
    by_cases hle : p.amt ≤ a
    · rw [if_neg (show ¬ min p.amt a = 0 by omega), if_pos (show p.amt - min p.amt a = 0 by omega), if_neg (show ¬ min p.amt (a + b) = 0 by omega), sumW, sumW, show a + b - min p.amt (a + b) = (a - min p.amt a) + b by omega, ← ih h.tail (by omega) hb, show min p.amt (a + b) = min p.amt a by omega]
      split <;> omega
    · rw [if_neg (show ¬ p.amt - min p.amt a = 0 by omega), show a - min p.amt a = 0 by omega, restR_zero h.tail, payE_zero h.tail, show min p.amt a = a by omega, payE]
      have e1 : a + b - min p.amt (a + b) = b - min (p.amt - a) b := by omega
      have e2 : min p.amt (a + b) = a + min (p.amt - a) b := by omega
      rw [e1, e2]
      show sumW (if a = 0 then payE r a else [(p.cred, a)]) who + sumW (if min (p.amt - a) b = 0 then payE r b else (p.cred, min (p.amt - a) b) :: payE r (b - min (p.amt - a) b)) who = _
      by_cases hb0 : min (p.amt - a) b = 0
      · have : b = 0 := by omega
        subst this
        rw [if_pos hb0, hb0, Int.sub_zero, payE_zero h.tail, Int.add_zero]
        exact Int.add_zero _
      · rw [if_neg hb0, if_neg (show ¬ a + min (p.amt - a) b = 0 by omega)]
        by_cases h0 : a = 0
        · rw [if_pos h0, h0, payE_zero h.tail]; simp [sumW]
        · rw [if_neg h0, sumW, sumW, sumW, sumW]
          show (if p.cred = who then a else 0) + 0 + ((if p.cred = who then _ else 0) + _) = (if p.cred = who then _ else 0) + _
          split <;> omega
/- The rank behind a payment. -/
theorem rest_pos {r : List Pg} (h : AmtOk r) : ∀ {s : Int}, 0 ≤ s → (r.map Pg.cred).Nodup → (r.map (subP (payE r s))).filter live = restR r s := by
  induction r with
  | nil => exact fun _ _ => rfl
  | cons p r ih =>
    intro s hs hn
    obtain ⟨hn1, hn2⟩ := List.nodup_cons.1 (by simpa using hn : (p.cred :: r.map Pg.cred).Nodup)
    have h1 := h p List.mem_cons_self
    have hr : r.map (subP (payE (p :: r) s)) = r.map (subP (payE r (s - min p.amt s))) := by
      refine List.map_congr_left fun x hx => ?_
      have hne : ¬ p.cred = x.cred := fun e => hn1 (e ▸ List.mem_map_of_mem hx)
      rw [subP, subP, payE]
      split
      · rename_i h0
        rw [h0, Int.sub_zero]
      · rw [gotC, if_neg hne]
    have hp : subP (payE (p :: r) s) p = { p with amt := p.amt - min p.amt s } := by
      have : gotC (payE (p :: r) s) p.cred = min p.amt s := by
        rw [payE]
        split
        · rename_i h0
          rw [h0]
          exact gotC_none fun q hq e => by
            obtain ⟨x, hx, hxe⟩ := payE_keys hq
            exact hn1 (by rw [← e, ← hxe]; exact List.mem_map_of_mem hx)
        · rw [gotC, if_pos rfl]
      rw [subP, this]
    rw [List.map_cons, hp, hr, restR]
    have hrec := ih h.tail (s := s - min p.amt s) (by omega) hn2
    by_cases hz : p.amt - min p.amt s = 0
    · rw [if_pos hz, List.filter_cons_of_neg (by simp [live, hz]), hrec]
    · rw [if_neg hz, List.filter_cons_of_pos (by simp only [live, decide_eq_true_eq]; omega), hrec]
theorem rank_amts {l : List Pg} (h : LnOk l) (t : ByteArray) : AmtOk (rankOf (ofT l t)) := fun x hx => (h.fit x (ofT_mem.1 ((rankOf_perm _).mem_iff.1 hx)).1).2.1
theorem rank_top {l : List Pg} (h : LnOk l) (t : ByteArray) : ∀ x ∈ rankOf (ofT l t), 1 ≤ x.amt ∧ x.amt ≤ 1099511627776 := fun x hx => (h.fit x (ofT_mem.1 ((rankOf_perm _).mem_iff.1 hx)).1).2.1 |> fun a => ⟨a, (h.fit x (ofT_mem.1 ((rankOf_perm _).mem_iff.1 hx)).1).2.2.1⟩
theorem rank_paid {l : List Pg} (h : LnOk l) (t : ByteArray) {s : Int} (hs : 0 ≤ s) : rankOf (ofT (paidL l t (payE (rankOf (ofT l t)) s)) t) = restR (rankOf (ofT l t)) s := by
  have hg := got_ok h t hs
  rw [ofT_paid l t _ (fun x hx => by have := hg x hx; omega), rankOf_filter, rankOf_map (f := subP _) (fun x => ⟨rfl, rfl⟩), rest_pos (rank_amts h t) hs (rank_nodup h t)]
theorem rank_len (l : List Pg) (t : ByteArray) : (rankOf (ofT l t)).length = (ofT l t).length := (rankOf_perm _).length_eq
theorem rank_none {l : List Pg} {t : ByteArray} : (rankOf (ofT l t)).length = 0 ↔ ofT l t = [] := by
  rw [rank_len]
  exact List.length_eq_zero_iff
theorem restR_len (r : List Pg) : ∀ s, (restR r s).length ≤ r.length := by
  induction r with
  | nil => exact fun _ => Nat.le_refl _
  | cons p r ih =>
    intro s
    rw [restR]
    split
    · exact Nat.le_succ_of_le (ih _)
    · simpa using ih _
/- Released. -/
theorem rank_rel (l : List Pg) (t c : ByteArray) : rankOf (ofT (relL l t c) t) = (rankOf (ofT l t)).filter fun x => !decide (x.cred = c) := by
  rw [← rankOf_filter]
  congr 1
  unfold ofT relL
  rw [List.filter_filter, List.filter_filter]
  refine List.filter_congr fun x _ => ?_
  unfold isOf
  by_cases h1 : x.thing = t <;> by_cases h2 : x.cred = c <;> simp [h1, h2]
theorem rel_yes {l : List Pg} {t c : ByteArray} (h : ∃ x ∈ rankOf (ofT l t), x.cred = c) : relC l t c = 0 := by
  obtain ⟨x, hx, hc⟩ := h
  have hx := (rankOf_perm _).mem_iff.1 hx
  rw [relC, if_neg]
  intro he
  have h2 := List.length_filter_eq_length_iff.1 he x (ofT_mem.1 hx).1
  rw [isOf, (ofT_mem.1 hx).2, hc] at h2
  simp at h2
theorem rel_no {l : List Pg} {t c : ByteArray} (h : ∀ x ∈ rankOf (ofT l t), x.cred ≠ c) : relC l t c = 4 := by
  rw [relC, if_pos]
  refine List.length_filter_eq_length_iff.2 fun x hx => ?_
  by_cases h1 : x.thing = t
  · have := h x ((rankOf_perm _).mem_iff.2 (ofT_mem.2 ⟨hx, h1⟩))
    simp [isOf, this]
  · simp [isOf, h1]
/- Thing by thing. -/
theorem ofT_ofT (l : List Pg) (t : ByteArray) : ofT (ofT l t) t = ofT l t := by
  unfold ofT
  rw [List.filter_filter]
  simp
theorem pledge_apart {l : List Pg} (p : Pg) (t : ByteArray) (hl : l.length < 4096) : ofT (pledgeL l p) t = if p.thing = t then pledgeL (ofT l t) p else ofT l t := by
  by_cases h : p.thing = t
  · have h2 : pledgeC (ofT l t) p = pledgeC l p := by
      rw [pledgeC, pledgeC, h, ofT_ofT, wrongT, wrongT]
      have h3 := ofT_le l t
      rw [if_neg (show ¬ 4096 ≤ l.length by omega), if_neg (show ¬ 4096 ≤ (ofT l t).length by omega)]
    rw [if_pos h, pledgeL, pledgeL, h2]
    split
    · rw [ofT_append, ofT_one, if_pos h]
    · rfl
  · rw [if_neg h, pledgeL]
    split
    · rw [ofT_append, ofT_one, if_neg h, List.append_nil]
    · rfl
theorem rel_apart (l : List Pg) (u c t : ByteArray) : ofT (relL l u c) t = if u = t then relL (ofT l t) u c else ofT l t := by
  by_cases h : u = t
  · rw [if_pos h]
    unfold ofT relL
    rw [List.filter_filter, List.filter_filter]
    refine List.filter_congr fun x _ => ?_
    rw [Bool.and_comm]
  · rw [if_neg h]
    unfold ofT relL
    rw [List.filter_filter]
    refine List.filter_congr fun x _ => ?_
    unfold isOf
    by_cases h1 : x.thing = t
    · have h2 : ¬ t = u := fun e => h e.symm
      simp [h1, h2]
    · simp [h1]
theorem paid_apart (l : List Pg) (t : ByteArray) (e : List (ByteArray × Int)) : ofT (paidL l t e) t = paidL (ofT l t) t e := by
  induction l with
  | nil => rfl
  | cons x r ih =>
    unfold paidL ofT at *
    rw [List.filterMap_cons]
    by_cases h1 : x.thing = t
    · rw [List.filter_cons_of_pos (p := fun x : Pg => decide (x.thing = t)) (by simp [h1]), List.filterMap_cons]
      by_cases hz : x.amt - gotC e x.cred = 0
      · simp only [if_pos h1, if_pos hz]; exact ih
      · simp only [if_pos h1, if_neg hz]
        rw [List.filter_cons_of_pos (by simp [h1]), ih]
    · simp only [if_neg h1]
      rw [List.filter_cons_of_neg (by simp [h1]), List.filter_cons_of_neg (by simp [h1])]
      exact ih
theorem step_apart {l : List Pg} (d : Dd) (t : ByteArray) (hl : l.length < 4096) : ofT (dstep l d) t = if d.p.thing = t then dstep (ofT l t) d else ofT l t := by
  unfold dstep
  split
  · exact pledge_apart d.p t hl
  split
  · exact rel_apart l _ _ t
  split
  · by_cases h : d.p.thing = t
    · rw [if_pos h, h, ofT_ofT]
      split
      · rfl
      split
      · rfl
      · exact paid_apart l t _
    · rw [if_neg h]
      split
      · rfl
      split
      · rfl
      · exact ofT_paid_other l (fun e => h e.symm) _
  · split <;> rfl
theorem deeds_apart (t : ByteArray) : ∀ (ds : List Dd) (l : List Pg), l.length + ds.length < 4096 → ofT (ds.foldl dstep l) t = (ds.filter fun d => decide (d.p.thing = t)).foldl dstep (ofT l t)
  | [], _, _ => rfl
  | d :: r, l, h => by
    have h1 := dstep_len l d
    rw [List.length_cons] at h
    rw [List.foldl_cons, deeds_apart t r _ (by omega), step_apart d t (by omega)]
    by_cases hd : d.p.thing = t
    · rw [List.filter_cons_of_pos (by simp [hd]), if_pos hd, List.foldl_cons]
    · rw [List.filter_cons_of_neg (by simp [hd]), if_neg hd]
theorem own_apart (ds : List Dd) (t : ByteArray) (h : ds.length ≤ 4000) : ofT (deeds (ds.filter fun d => decide (d.p.thing = t))) t = ofT (deeds ds) t := by
  have h1 := List.length_filter_le (fun d : Dd => decide (d.p.thing = t)) ds
  unfold deeds
  rw [deeds_apart t _ [] (by simp only [List.length_nil]; omega), deeds_apart t ds [] (by simp only [List.length_nil]; omega), List.filter_filter]
  simp
end Go.Proofs.Ytnlfhncbnfmccaa.Sc
