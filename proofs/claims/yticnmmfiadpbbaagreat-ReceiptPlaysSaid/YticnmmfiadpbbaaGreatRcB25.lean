/- What holds of a warehouse stays so; its stock is what came in less what went out; plainly. -/
import Derived.Test.YticnmmfiadpbbaaGreatRc25
namespace Go.Proofs.YticnmmfiadpbbaaGreat.Sc
open Go Go.RowKit
set_option maxRecDepth 100000

theorem storeC_zero {h : Hs} {n who : ByteArray} {d : Int} {l : List Lt} (h0 : storeC h n who d l = 0) : nameOk n = true ∧ nameOk who = true ∧ lotsOk l = true ∧ (0 ≤ d ∧ d ≤ 1048576) ∧ n ∉ h.used ∧ l.length ≤ 64 := by
  unfold storeC at h0
  split at h0
  · cases h0
  split at h0
  · cases h0
  split at h0
  · cases h0
  split at h0
  · cases h0
  rename_i h1 h2 h3 h4
  simp only [Bool.not_eq_false, Bool.and_eq_true, decide_eq_true_eq, Bool.or_eq_true, not_or, Nat.not_le, Nat.not_lt, memB_iff] at h1 h2 h3 h4
  exact ⟨h1.1, h1.2.1, h1.2.2, h2, h3, h4.2⟩
theorem put_ok {L : List Rc} {x : Rc} (hup : L.Pairwise fun a b => bt a.num < bt b.num) (hall : ∀ r ∈ L, RcOk r) (hx : ∀ r ∈ L, r.num ≠ x.num) (hok : RcOk x) :
    ((rput L x).Pairwise fun a b => bt a.num < bt b.num) ∧ (∀ r ∈ rput L x, RcOk r) ∧ (rput L x).length = L.length + 1 :=
  ⟨rput_up hup hx, fun r hr => (mem_rput.1 hr).elim (fun e => e ▸ hok) (hall r), rput_length L x⟩
theorem HsOk.store {h : Hs} {k : Nat} (o : HsOk k h) (n who : ByteArray) (d : Int) (l : List Lt) : HsOk (k + 1) (storeH h n who d l) := by
  unfold storeH
  split
  · rename_i h0
    obtain ⟨h1, h2, h3, h4, h5, h6⟩ := storeC_zero h0
    have hne : ∀ r ∈ h.L, r.num ≠ n := fun r hr e => h5 (e ▸ o.inn r hr)
    obtain ⟨p1, p2, p3⟩ := put_ok o.up o.all (x := ⟨n, h.name, who, joinL l, d⟩) hne (rcOk_new h1 h3 h6 h4)
    refine ⟨p1, p2, fun r hr => ?_, ?_, fun m hm => ?_, ?_, ?_⟩
    · rcases mem_rput.1 hr with rfl | hr
      · simp
      · exact List.mem_append_left _ (o.inn r hr)
    · rw [List.nodup_append]
      exact ⟨o.nd, by simp, fun a ha b hb => by rw [List.mem_singleton.1 hb]; rintro rfl; exact h5 ha⟩
    · rcases List.mem_append.1 hm with hm | hm
      · exact o.nm m hm
      · rw [List.mem_singleton.1 hm]; exact h1
    · have := o.len; simp only [p3]; omega
    · have := o.ul; simp only [List.length_append, List.length_singleton]; omega
  · exact o.mono (by omega)
theorem ownC_cases {h : Hs} {n b : ByteArray} (h0 : ownC h n b = 0) : ∃ r, rfind h.L n = some r ∧ r.hold = b := by
  unfold ownC at h0
  split at h0
  · cases h0
  · rename_i r hr
    split at h0
    · exact ⟨r, hr, by assumption⟩
    · cases h0
theorem HsOk.pass {h : Hs} {k : Nat} (o : HsOk k h) (n b to' : ByteArray) : HsOk (k + 1) (passH h n b to') := by
  unfold passH
  split
  · split
    · exact o.mono (by omega)
    · rename_i r hr
      have hr1 := rfind_some hr
      have hne : ∀ x ∈ rdel h.L n, x.num ≠ r.num := fun x hx e => (mem_rdel.1 hx).2 (e.trans hr1.2)
      have hro := o.all r hr1.1
      obtain ⟨p1, p2, p3⟩ := put_ok (rdel_up o.up n) (fun x hx => o.all x (mem_rdel.1 hx).1) (x := ⟨r.num, r.house, to', r.lots, r.day⟩) hne ⟨hro.num, hro.norm, hro.len, hro.cnt, hro.day⟩
      refine ⟨p1, p2, fun x hx => ?_, o.nd, o.nm, ?_, ?_⟩
      · rcases mem_rput.1 hx with rfl | hx
        · exact o.inn r hr1.1
        · exact o.inn x (mem_rdel.1 hx).1
      · have := o.len; have := rdel_lt hr; simp only [p3]; omega
      · have := o.ul; show h.used.length ≤ _; omega
  · exact o.mono (by omega)
theorem numsFrom_ok : ∀ {ns seen : List ByteArray}, numsFrom seen ns = true → (∀ n ∈ ns, nameOk n = true ∧ n ∉ seen) ∧ ns.Nodup
  | [], _, _ => by simp
  | n :: r, seen, h => by
    simp only [numsFrom, Bool.and_eq_true, Bool.not_eq_true', memB_no] at h
    obtain ⟨h1, h2, h3⟩ := h
    obtain ⟨h4, h5⟩ := numsFrom_ok h3
    refine ⟨fun m hm => ?_, List.nodup_cons.2 ⟨fun hn => (h4 n hn).2 (by simp), h5⟩⟩
    rcases List.mem_cons.1 hm with rfl | hm
    · exact ⟨h1, h2⟩
    · exact ⟨(h4 m hm).1, fun e => (h4 m hm).2 (List.mem_append_left _ e)⟩
theorem partR_zero {h : Hs} {lots : List Lt} {ns : List ByteArray} {ps : List (List Lt)} (h0 : partR h lots ns ps = 0) :
    ns.length = ps.length ∧ numsOk ns = true ∧ (∀ p ∈ ps, lotsOk p = true) ∧ ps.length ≤ 64 ∧ (∀ p ∈ ps, p.length ≤ 64) ∧ (∀ n ∈ ns, n ∉ h.used) ∧ joinL ps.flatten = lots := by
  unfold partR at h0
  split at h0
  · cases h0
  split at h0
  · cases h0
  split at h0
  · cases h0
  split at h0
  · rename_i h1 h2 h3 h4
    simp only [partArg, partFull, Bool.or_eq_true, decide_eq_true_eq, Bool.not_eq_true', decide_eq_false_iff_not, List.any_eq_true, not_or, not_exists, not_and, Classical.not_not, Nat.not_lt, memB_iff] at h1 h2 h3
    refine ⟨h1.2.1, by simpa using h1.2.2.1, fun p hp => ?_, h2.1, fun p hp => ?_, fun n hn => ?_, (sameL_iff _ _).1 h4⟩
    · have := h1.2.2.2 p hp
      simpa using this
    · have := h2.2.2 p hp
      omega
    · exact h3 n hn
  · cases h0
theorem partC_zero {h : Hs} {n b : ByteArray} {ns : List ByteArray} {ps : List (List Lt)} (h0 : partC h n b ns ps = 0) : ∃ r, rfind h.L n = some r ∧ r.hold = b ∧ partR h r.lots ns ps = 0 := by
  unfold partC at h0
  split at h0
  · cases h0
  · rename_i r hr
    split at h0
    · exact ⟨r, hr, by assumption, h0⟩
    · cases h0
theorem parts_ok {name b : ByteArray} {day : Int} (hd : 0 ≤ day ∧ day ≤ 1048576) : ∀ {ns : List ByteArray} {ps : List (List Lt)} {L : List Rc}, (L.Pairwise fun a b => bt a.num < bt b.num) → (∀ r ∈ L, RcOk r) → ns.length = ps.length →
    (∀ n ∈ ns, nameOk n = true ∧ ∀ r ∈ L, r.num ≠ n) → ns.Nodup → (∀ p ∈ ps, lotsOk p = true ∧ p.length ≤ 64) →
    ((partsL name b day L ns ps).Pairwise fun a b => bt a.num < bt b.num) ∧ (∀ r ∈ partsL name b day L ns ps, RcOk r ∧ (r ∈ L ∨ r.num ∈ ns)) ∧ (partsL name b day L ns ps).length = L.length + ns.length ∧
      ∀ g, posTot (allL (partsL name b day L ns ps)) g = posTot (allL L) g + posTot ps.flatten g
  | [], [], L, hup, hall, _, _, _, _ => ⟨hup, fun r hr => ⟨hall r hr, .inl hr⟩, rfl, fun g => by simp [partsL, posTot]⟩
  | [], _ :: _, _, _, _, hl, _, _, _ => by simp at hl
  | _ :: _, [], _, _, _, hl, _, _, _ => by simp at hl
  | n :: ns, p :: ps, L, hup, hall, hl, hn, hnd, hp => by
    have hnd' := List.nodup_cons.1 hnd
    have hp1 := hp p List.mem_cons_self
    have hn1 := hn n List.mem_cons_self
    obtain ⟨p1, p2, p3⟩ := put_ok hup hall (x := ⟨n, name, b, joinL p, day⟩) hn1.2 (rcOk_new hn1.1 hp1.1 hp1.2 hd)
    obtain ⟨q1, q2, q3, q4⟩ := parts_ok (name := name) (b := b) hd p1 p2 (by simpa using hl) (ns := ns) (ps := ps) (fun m hm => ⟨(hn m (List.mem_cons_of_mem _ hm)).1, fun r hr => by
      rcases mem_rput.1 hr with rfl | hr
      · exact fun e => hnd'.1 (by rw [show n = m from e]; exact hm)
      · exact (hn m (List.mem_cons_of_mem _ hm)).2 r hr⟩) hnd'.2 (fun x hx => hp x (List.mem_cons_of_mem _ hx))
    refine ⟨q1, fun r hr => ⟨(q2 r hr).1, ?_⟩, ?_, fun g => ?_⟩
    · rcases (q2 r hr).2 with h1 | h1
      · rcases mem_rput.1 h1 with rfl | h1
        · exact .inr List.mem_cons_self
        · exact .inl h1
      · exact .inr (List.mem_cons_of_mem _ h1)
    · show (partsL name b day (rput L _) ns ps).length = _
      rw [q3, p3]; simp only [List.length_cons]; omega
    · show posTot (allL (partsL name b day (rput L _) ns ps)) g = _
      rw [q4, rput_tot, List.flatten_cons, posTot_append, joinL_tot]
      omega
theorem HsOk.part {h : Hs} {k : Nat} (o : HsOk k h) (n b : ByteArray) (ns : List ByteArray) (ps : List (List Lt)) : HsOk (k + 1) (partH h n b ns ps) := by
  unfold partH
  split
  · rename_i h0
    obtain ⟨r, hr, -, h1⟩ := partC_zero h0
    obtain ⟨g1, g2, g3, g4, g5, g6, g7⟩ := partR_zero h1
    obtain ⟨g8, g9⟩ := numsFrom_ok g2
    rw [hr]
    have hro := o.all r (rfind_some hr).1
    obtain ⟨p1, p2, p3, -⟩ := parts_ok (name := h.name) (b := b) hro.day (rdel_up o.up n) (fun x hx => o.all x (mem_rdel.1 hx).1) g1 (fun m hm => ⟨(g8 m hm).1, fun x hx e => g6 m hm (by rw [← e]; exact o.inn x (mem_rdel.1 hx).1)⟩) g9 (fun p hp => ⟨g3 p hp, g5 p hp⟩)
    refine ⟨p1, fun x hx => (p2 x hx).1, fun x hx => ?_, ?_, fun m hm => ?_, ?_, ?_⟩
    · rcases (p2 x hx).2 with h2 | h2
      · exact List.mem_append_left _ (o.inn x (mem_rdel.1 h2).1)
      · exact List.mem_append_right _ h2
    · rw [List.nodup_append]
      exact ⟨o.nd, g9, fun a ha b hb => by rintro rfl; exact g6 a hb ha⟩
    · rcases List.mem_append.1 hm with hm | hm
      · exact o.nm m hm
      · exact (g8 m hm).1
    · have := o.len; have := rdel_lt hr; simp only [p3]; omega
    · have := o.ul; simp only [List.length_append]; omega
  · exact o.mono (by omega)
theorem outC_zero {h : Hs} {n b : ByteArray} {l : List Lt} (h0 : outC h n b l = 0) : ∃ r, rfind h.L n = some r ∧ r.hold = b ∧ lotsOk l = true ∧ l.length ≤ 64 ∧ canTake r.lots l := by
  unfold outC at h0
  split at h0
  · cases h0
  · rename_i r hr
    split at h0
    · rename_i hb
      unfold outR at h0
      split at h0
      · cases h0
      split at h0
      · cases h0
      split at h0
      · rename_i h1 h2 h3
        exact ⟨r, hr, hb, by simpa using h1, by simpa using h2, (leB_iff _ _).1 h3⟩
      · cases h0
    · cases h0
theorem totC_leftL {l m : List Lt} (hp : ∀ x ∈ joinL l, 0 < x.cnt) : ∀ (s : List Lt), (∀ x ∈ s, 0 < x.cnt) → totC (s.filterMap fun x => if x.cnt - posTot m x.good = 0 then none else some ⟨x.good, x.cnt - posTot m x.good⟩) ≤ totC s
  | [], _ => by simp [totC]
  | x :: s, h => by
    have h1 := totC_leftL hp s (fun y hy => h y (List.mem_cons_of_mem _ hy)) (m := m)
    have h2 := posTot_nonneg m x.good
    have h3 := h x List.mem_cons_self
    rw [totC_cons]
    by_cases h4 : x.cnt - posTot m x.good = 0
    · rw [List.filterMap_cons_none (by rw [if_pos h4])]; omega
    · rw [List.filterMap_cons_some (by rw [if_neg h4]), totC_cons]
      show x.cnt - posTot m x.good + _ ≤ _
      omega
theorem left_rc {r : Rc} (h : RcOk r) {l : List Lt} (hc : canTake r.lots l) : Norm (leftL r.lots l) ∧ (leftL r.lots l).length ≤ 64 ∧ totC (leftL r.lots l) ≤ 67108864 := by
  refine ⟨leftL_norm hc, ?_, ?_⟩
  · have h1 := List.length_filterMap_le (fun x : Lt => if x.cnt - posTot l x.good = 0 then none else some (⟨x.good, x.cnt - posTot l x.good⟩ : Lt)) (joinL r.lots)
    have h2 := joinL_length' r.lots
    have h3 := h.len
    unfold leftL
    omega
  · have h1 := totC_leftL (l := r.lots) (m := l) (joinL_norm r.lots).pos (joinL r.lots) (joinL_norm r.lots).pos
    rw [joinL_totC h.norm.pos] at h1
    have := h.cnt
    exact Int.le_trans h1 this
theorem HsOk.out {h : Hs} {k : Nat} (o : HsOk k h) (n b : ByteArray) (l : List Lt) : HsOk (k + 1) (outH h n b l) := by
  unfold outH
  split
  · rename_i h0
    obtain ⟨r, hr, -, g1, g2, g3⟩ := outC_zero h0
    rw [hr]
    have hr1 := rfind_some hr
    have hro := o.all r hr1.1
    obtain ⟨q1, q2, q3⟩ := left_rc hro g3
    have hlt := rdel_lt hr
    have hlen := o.len
    have hul := o.ul
    by_cases h1 : (leftL r.lots l).length = 0
    · simp only [h1, if_true]
      exact ⟨rdel_up o.up n, fun x hx => o.all x (mem_rdel.1 hx).1, fun x hx => o.inn x (mem_rdel.1 hx).1, o.nd, o.nm, by show (rdel h.L n).length ≤ _; omega, by show h.used.length ≤ _; omega⟩
    · simp only [h1, if_false]
      have hne : ∀ x ∈ rdel h.L n, x.num ≠ r.num := fun x hx e => (mem_rdel.1 hx).2 (e.trans hr1.2)
      obtain ⟨p1, p2, p3⟩ := put_ok (rdel_up o.up n) (fun x hx => o.all x (mem_rdel.1 hx).1) (x := ⟨r.num, r.house, r.hold, leftL r.lots l, r.day⟩) hne ⟨hro.num, q1, q2, q3, hro.day⟩
      refine ⟨p1, p2, fun x hx => ?_, o.nd, o.nm, ?_, ?_⟩
      · rcases mem_rput.1 hx with rfl | hx
        · exact o.inn r hr1.1
        · exact o.inn x (mem_rdel.1 hx).1
      · simp only [p3]; omega
      · show h.used.length ≤ _; omega
  · exact o.mono (by omega)
theorem HsOk.op {h : Hs} {k : Nat} (o : HsOk k h) (x : Rop) : HsOk (k + 1) (opH h x) := by
  unfold opH
  split
  · exact o.store ..
  split
  · exact o.pass ..
  split
  · exact o.part ..
  split
  · exact o.out ..
  exact o.mono (by omega)
theorem HsOk.play {h : Hs} {k : Nat} (o : HsOk k h) (l : List Rop) : HsOk (k + l.length) (playH h l) := by
  induction l generalizing h k with
  | nil => exact o
  | cons x r ih =>
    have := ih (o.op x)
    rw [playH, List.foldl_cons, List.length_cons]
    have e : k + 1 + r.length = k + (r.length + 1) := by omega
    rw [← e]
    exact this

/-! the stock -/
def insOf (h : Hs) (o : Rop) : List Lt := if opC h o = 0 ∧ o.kind = 1 then o.lots else []
def outsOf (h : Hs) (o : Rop) : List Lt := if opC h o = 0 ∧ o.kind = 4 then o.lots else []
theorem stock_op {h : Hs} {k : Nat} (ok : HsOk k h) (o : Rop) (g : ByteArray) : posTot (allL (opH h o).L) g + posTot (outsOf h o) g = posTot (allL h.L) g + posTot (insOf h o) g := by
  unfold insOf outsOf opH
  have n1 : ∀ q, ¬ o.kind = q → ¬ (opC h o = 0 ∧ o.kind = q) := fun q hq e => hq e.2
  by_cases h1 : o.kind = 1
  · have e4 : ¬ o.kind = 4 := by omega
    have eC : opC h o = storeC h o.num o.by' o.day o.lots := by rw [opC, if_pos h1]
    rw [if_pos h1, if_neg (n1 4 e4), eC]
    unfold storeH
    by_cases h0 : storeC h o.num o.by' o.day o.lots = 0
    · rw [if_pos h0, if_pos ⟨h0, h1⟩]
      show posTot (allL (rput h.L _)) g + _ = _
      rw [rput_tot, joinL_tot]
      simp only [posTot]; omega
    · rw [if_neg h0, if_neg (fun e => h0 e.1)]
  rw [if_neg h1, if_neg (n1 1 h1)]
  by_cases h2 : o.kind = 2
  · have e4 : ¬ o.kind = 4 := by omega
    rw [if_pos h2, if_neg (n1 4 e4)]
    unfold passH
    split
    · split
      · rfl
      · rename_i r hr
        show posTot (allL (rput _ _)) g + _ = _
        rw [rput_tot, rdel_tot ok.up hr]
    · rfl
  rw [if_neg h2]
  by_cases h3 : o.kind = 3
  · have e4 : ¬ o.kind = 4 := by omega
    rw [if_pos h3, if_neg (n1 4 e4)]
    unfold partH
    split
    · rename_i h0
      obtain ⟨r, hr, -, h1⟩ := partC_zero h0
      obtain ⟨g1, g2, g3, g4, g5, g6, g7⟩ := partR_zero h1
      obtain ⟨g8, g9⟩ := numsFrom_ok g2
      rw [hr]
      have hro := ok.all r (rfind_some hr).1
      obtain ⟨-, -, -, p4⟩ := parts_ok (name := h.name) (b := o.by') hro.day (rdel_up ok.up o.num) (fun x hx => ok.all x (mem_rdel.1 hx).1) g1 (fun m hm => ⟨(g8 m hm).1, fun x hx e => g6 m hm (by rw [← e]; exact ok.inn x (mem_rdel.1 hx).1)⟩) g9 (fun p hp => ⟨g3 p hp, g5 p hp⟩)
      show posTot (allL (partsL _ _ _ _ _ _)) g + _ = _
      rw [p4, rdel_tot ok.up hr, ← g7, joinL_tot]
      simp only [posTot]; omega
    · rfl
  rw [if_neg h3]
  by_cases h4 : o.kind = 4
  · have eC : opC h o = outC h o.num o.by' o.lots := by rw [opC, if_neg h1, if_neg h2, if_neg h3, if_pos h4]
    rw [if_pos h4, eC]
    unfold outH
    by_cases h0 : outC h o.num o.by' o.lots = 0
    · obtain ⟨r, hr, -, -, -, g3⟩ := outC_zero h0
      rw [if_pos h0, if_pos ⟨h0, h4⟩, hr]
      have e := leftL_tot g3 g
      have e2 := rdel_tot ok.up hr g
      have e3 := g3 g
      by_cases h5 : (leftL r.lots o.lots).length = 0
      · have h6 : leftL r.lots o.lots = [] := List.length_eq_zero_iff.1 h5
        simp only [h5, if_true]
        rw [h6] at e
        simp only [posTot] at e ⊢
        omega
      · simp only [h5, if_false]
        rw [rput_tot, e]
        simp only [posTot]
        omega
    · rw [if_neg h0, if_neg (fun e => h0 e.1)]
  · rw [if_neg h4, if_neg (n1 4 h4)]
/-- What came in and went out by the calls up to now. -/
structure Flow where
  h : Hs
  ins : List Lt
  outs : List Lt
def flowO (s : Flow) (o : Rop) : Flow := ⟨opH s.h o, s.ins ++ insOf s.h o, s.outs ++ outsOf s.h o⟩
def flowL (s : Flow) (l : List Rop) : Flow := l.foldl flowO s
structure FlowOk (k : Nat) (s : Flow) : Prop where
  ok : HsOk k s.h
  tot : ∀ g, posTot (allL s.h.L) g + posTot s.outs g = posTot s.ins g
  il : s.ins.length ≤ 64 * k
  ol : s.outs.length ≤ 64 * k
  ic : ∀ x ∈ s.ins, 1 ≤ x.cnt ∧ x.cnt ≤ 1048576
  oc : ∀ x ∈ s.outs, 1 ≤ x.cnt ∧ x.cnt ≤ 1048576
theorem lotsOk_fit {l : List Lt} (h : lotsOk l = true) : ∀ x ∈ l, 1 ≤ x.cnt ∧ x.cnt ≤ 1048576 := by
  intro x hx
  simp only [lotsOk, Bool.and_eq_true, List.all_eq_true] at h
  have := h.1 x hx
  simp only [lotOk, Bool.and_eq_true, decide_eq_true_eq] at this
  exact this.2
theorem ins_fit (h : Hs) (o : Rop) : (∀ x ∈ insOf h o, 1 ≤ x.cnt ∧ x.cnt ≤ 1048576) ∧ (insOf h o).length ≤ 64 := by
  unfold insOf
  split
  · rename_i h1
    have h2 := h1.1
    rw [opC, if_pos h1.2] at h2
    obtain ⟨-, -, h3, -, -, h4⟩ := storeC_zero h2
    exact ⟨lotsOk_fit h3, h4⟩
  · simp
theorem outs_fit (h : Hs) (o : Rop) : (∀ x ∈ outsOf h o, 1 ≤ x.cnt ∧ x.cnt ≤ 1048576) ∧ (outsOf h o).length ≤ 64 := by
  unfold outsOf
  split
  · rename_i h1
    have h2 := h1.1
    rw [opC, if_neg (by omega), if_neg (by omega), if_neg (by omega), if_pos h1.2] at h2
    obtain ⟨r, -, -, h3, h4, -⟩ := outC_zero h2
    exact ⟨lotsOk_fit h3, h4⟩
  · simp
theorem FlowOk.op {k : Nat} {s : Flow} (f : FlowOk k s) (o : Rop) : FlowOk (k + 1) (flowO s o) := by
  have hi := ins_fit s.h o
  have ho := outs_fit s.h o
  refine ⟨f.ok.op o, fun g => ?_, ?_, ?_, fun x hx => ?_, fun x hx => ?_⟩
  · show posTot (allL (opH s.h o).L) g + posTot (s.outs ++ outsOf s.h o) g = posTot (s.ins ++ insOf s.h o) g
    have h1 := stock_op f.ok o g
    have h2 := f.tot g
    rw [posTot_append, posTot_append]
    omega
  · show (s.ins ++ insOf s.h o).length ≤ _
    have := f.il; rw [List.length_append]; omega
  · show (s.outs ++ outsOf s.h o).length ≤ _
    have := f.ol; rw [List.length_append]; omega
  · exact (List.mem_append.1 hx).elim (f.ic x) (hi.1 x)
  · exact (List.mem_append.1 hx).elim (f.oc x) (ho.1 x)
theorem flow_nil (name : ByteArray) : FlowOk 0 ⟨⟨name, [], []⟩, [], []⟩ := ⟨hsOk_nil name, by simp [allL, posTot], by simp, by simp, by simp, by simp⟩
theorem flow_can {k : Nat} {s : Flow} (f : FlowOk k s) : canTake s.ins s.outs := fun g => by
  have := f.tot g
  have := posTot_nonneg (allL s.h.L) g
  omega
theorem flow_left {k : Nat} {s : Flow} (f : FlowOk k s) : stockL s.h = leftL s.ins s.outs :=
  norm_ext (joinL_norm _) (leftL_norm (flow_can f)) fun g => by
    show posTot (joinL _) g = _
    rw [leftL_tot (flow_can f), joinL_tot]
    have := f.tot g
    omega
theorem allL_len {k : Nat} {h : Hs} (o : HsOk k h) : (allL h.L).length ≤ 64 * h.L.length := by
  have := o.all
  generalize h.L = L at *
  induction L with
  | nil => simp [allL]
  | cons a r ih =>
    have h1 := ih fun x hx => this x (List.mem_cons_of_mem _ hx)
    have h2 := (this a List.mem_cons_self).len
    simp only [allL, List.flatMap_cons, List.length_append, List.length_cons] at h1 ⊢
    omega
theorem allL_tot {k : Nat} {h : Hs} (o : HsOk k h) (g : ByteArray) : posTot (allL h.L) g ≤ 67108864 * h.L.length := by
  have := o.all
  generalize h.L = L at *
  induction L with
  | nil => simp [allL, posTot]
  | cons a r ih =>
    have h1 := ih fun x hx => this x (List.mem_cons_of_mem _ hx)
    have h2 := (this a List.mem_cons_self)
    have h3 := posTot_totC h2.norm.pos g
    have h4 := h2.cnt
    simp only [allL, List.flatMap_cons, posTot_append, List.length_cons] at h1 ⊢
    omega
end Go.Proofs.YticnmmfiadpbbaaGreat.Sc
