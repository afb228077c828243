/- What the history of a life tells: what was paid, what is open. -/
import Derived.Test.YtjabjfkfoenmlaaInv34
namespace Go.Proofs.Ytjabjfkfoenmlaa.Sc
open Go Go.RowKit Go.ChangeShapes Go.WideShapes Go.ChangeAt
set_option maxRecDepth 100000

def scanE (app : ByteArray) (s : Int × Int × Bool) (e : Ev) : Int × Int × Bool :=
  if e.kind = 2 then (s.1, e.amt, s.2.2) else if e.kind = 5 then (s.1 + s.2.1, s.2.1, true) else if e.kind = 6 then (s.1, s.2.1, if e.party = app then false else s.2.2) else s
def scan (app : ByteArray) (es : List Ev) : Int × Int × Bool := es.foldl (scanE app) (0, 0, false)
theorem scan_snoc (app : ByteArray) (es : List Ev) (e : Ev) : scan app (es ++ [e]) = scanE app (scan app es) e := by simp [scan]
theorem scan_take (app : ByteArray) (es : List Ev) (k : Nat) (h : k < es.length) : scan app (es.take (k + 1)) = scanE app (scan app (es.take k)) es[k] := by rw [List.take_succ_eq_append_getElem h, scan_snoc]
theorem scan_bd (app : ByteArray) (es : List Ev) (h : ∀ e ∈ es, 0 ≤ e.amt ∧ e.amt ≤ 1099511627776) : (0 ≤ (scan app es).1 ∧ (scan app es).1 ≤ 1099511627776 * es.length) ∧ 0 ≤ (scan app es).2.1 ∧ (scan app es).2.1 ≤ 1099511627776 := by
  have : ∀ (es : List Ev) (s : Int × Int × Bool) (n : Nat), (∀ e ∈ es, 0 ≤ e.amt ∧ e.amt ≤ 1099511627776) → ((0 ≤ s.1 ∧ s.1 ≤ 1099511627776 * n) ∧ 0 ≤ s.2.1 ∧ s.2.1 ≤ 1099511627776) →
      ((0 ≤ (es.foldl (scanE app) s).1 ∧ (es.foldl (scanE app) s).1 ≤ 1099511627776 * (n + es.length : Nat)) ∧ 0 ≤ (es.foldl (scanE app) s).2.1 ∧ (es.foldl (scanE app) s).2.1 ≤ 1099511627776) := by
    intro es
    induction es with
    | nil => intro s n _ h; simpa using h
    | cons e r ih =>
      intro s n he hs
      have h1 := he e List.mem_cons_self
      have h2 : ((0 ≤ (scanE app s e).1 ∧ (scanE app s e).1 ≤ 1099511627776 * (n + 1 : Nat)) ∧ 0 ≤ (scanE app s e).2.1 ∧ (scanE app s e).2.1 ≤ 1099511627776) := by
        unfold scanE
        split
        · simp only; omega
        split
        · simp only; omega
        split
        · simp only; omega
        · omega
      have := ih _ (n + 1) (fun x hx => he x (List.mem_cons_of_mem _ hx)) h2
      simp only [List.foldl_cons, List.length_cons]
      rw [show n + (r.length + 1) = n + 1 + r.length from by omega]
      exact this
  simpa [scan] using this es (0, 0, false) 0 h (by simp)

/-- What may be, of an event behind others. -/
def okE (exp : Int) (s : Int × Int × Bool) (e : Ev) : Prop := (e.kind = 2 → s.2.2 = false ∧ e.day ≤ exp) ∧ (e.kind = 6 → s.2.2 = true) ∧ (e.kind = 7 → s.2.2 = false ∧ exp < e.day)
structure Scd (c : Cr) (l : Lf) : Prop where
  sum : (scan c.s1 l.evs).1 = dsum l.paid
  now : l.st = 2 ∨ l.st = 4 → (scan c.s1 l.evs).2.1 = l.now.amt
  opn : (scan c.s1 l.evs).2.2 = decide (l.st = 5)
  ok : ∀ i (h : i < l.evs.length), okE c.expiry (scan c.s1 (l.evs.take i)) l.evs[i] ∧ (l.evs[i].kind = 7 → i + 1 = l.evs.length)
  last : ∀ e ∈ l.evs, e.kind = 7 → l.st = 7
  most : dsum l.paid ≤ c.most
  more : l.st = 2 ∨ l.st = 4 → dsum l.paid + l.now.amt ≤ c.most
  amt : ∀ e ∈ l.evs, 0 ≤ e.amt ∧ e.amt ≤ 1099511627776
theorem scd_push {c : Cr} {l l' : Lf} {e : Ev} (h : Scd c l) (hst : ¬ l.st = 7) (hev : l'.evs = l.evs ++ [e]) (hok : okE c.expiry (scan c.s1 l.evs) e) (h1 : (scanE c.s1 (scan c.s1 l.evs) e).1 = dsum l'.paid)
    (h2 : l'.st = 2 ∨ l'.st = 4 → (scanE c.s1 (scan c.s1 l.evs) e).2.1 = l'.now.amt) (h3 : (scanE c.s1 (scan c.s1 l.evs) e).2.2 = decide (l'.st = 5)) (h7 : e.kind = 7 → l'.st = 7) (hm : dsum l'.paid ≤ c.most) (hm2 : l'.st = 2 ∨ l'.st = 4 → dsum l'.paid + l'.now.amt ≤ c.most)
    (ha : 0 ≤ e.amt ∧ e.amt ≤ 1099511627776) : Scd c l' := by
  have no7 : ∀ x ∈ l.evs, ¬ x.kind = 7 := fun x hx hk => hst (h.last x hx hk)
  refine ⟨by rw [hev, scan_snoc]; exact h1, fun hs => by rw [hev, scan_snoc]; exact h2 hs, by rw [hev, scan_snoc]; exact h3, fun i hi => ?_, fun x hx hk => ?_, hm, hm2, fun x hx => ?_⟩
  · simp only [hev]
    by_cases hil : i < l.evs.length
    · have ht : (l.evs ++ [e]).take i = l.evs.take i := by rw [List.take_append_of_le_length (by omega)]
      have hg : (l.evs ++ [e])[i]'(by simp; omega) = l.evs[i] := List.getElem_append_left hil
      rw [ht, hg]
      exact ⟨(h.ok i hil).1, fun hk => absurd hk (no7 _ (List.getElem_mem hil))⟩
    · have hie : i = l.evs.length := by rw [hev] at hi; simp at hi; omega
      subst hie
      have ht : (l.evs ++ [e]).take l.evs.length = l.evs := by simp
      have hg : (l.evs ++ [e])[l.evs.length]'(by simp) = e := by simp
      rw [ht, hg]
      exact ⟨hok, fun _ => by simp⟩
  · rw [hev] at hx
    rcases List.mem_append.1 hx with hx | hx
    · exact absurd hk (no7 _ hx)
    · obtain rfl := List.mem_singleton.1 hx
      exact h7 hk
  · rw [hev] at hx
    rcases List.mem_append.1 hx with hx | hx
    · exact h.amt x hx
    · obtain rfl := List.mem_singleton.1 hx
      exact ha
theorem ev_amt {e : Ev} (h : e.ok = true) : 0 ≤ e.amt ∧ e.amt ≤ 1099511627776 := by
  simp only [Ev.ok, Bool.and_eq_true, decide_eq_true_eq] at h
  have h2 := h.2
  by_cases hk : e.kind = 2
  · rw [if_pos hk] at h2
    simp at h2
    omega
  · rw [if_neg hk] at h2
    simp at h2
    omega
theorem scd_new (c : Cr) (hm : 0 ≤ c.most) : Scd c (Lf.new c) := ⟨rfl, by simp [Lf.new], rfl, (fun i h => by simp [Lf.new] at h), (by simp [Lf.new]), hm, by simp [Lf.new], by simp [Lf.new]⟩
set_option maxHeartbeats 1000000 in
theorem step_scd {c : Cr} {l : Lf} (hl : c.Lives) (g : l.good c) (h : Scd c l) (e : Ev) : Scd c (l.step e).2 := by
  cases hok : e.ok
  · unfold Lf.step; rw [stepW_bad hok]; exact h
  cases hla : l.late e
  case true => unfold Lf.step; rw [stepW_late hok hla]; exact h
  cases hca : l.can e.kind
  case false => unfold Lf.step; rw [stepW_cant hok hla hca]; exact h
  by_cases hby : e.party = l.byv e.kind
  case neg => unfold Lf.step; rw [stepW_other hok hla hca hby]; exact h
  obtain ⟨k0, k7⟩ := ev_kind hok
  have ha := ev_amt hok
  have hc2 : l.can e.kind = true := hca
  unfold Lf.can at hca
  rw [bit_st e.kind l.st k0 k7 g.s0 g.s7, Bool.and_eq_true] at hca
  obtain ⟨hst, hmb⟩ := hca
  obtain ⟨kk, kp, kd, ka⟩ := e
  simp only at k0 k7 ha hc2 hst hmb hby
  have hs1 : l.c.s1 = c.s1 := by rw [g.cr]
  have hs3 : l.c.s3 = c.s3 := by rw [g.cr]
  by_cases hz : (l.turn kk ⟨kk, kp, kd, ka⟩).1 = 0
  case neg =>
    unfold Lf.step
    rw [stepW_code hok hla hc2 hby hz]
    rcases eight k0 k7 with rfl | rfl | rfl | rfl | rfl | rfl | rfl | rfl
    case inr.inr.inl =>
      have : (l.turn 2 ⟨2, kp, kd, ka⟩).2 = l := by
        have hz' : ¬ mayCode l.c l.paid ⟨kd, ka⟩ = 0 := hz
        show (if mayCode l.c l.paid ⟨kd, ka⟩ = 0 then l.present ⟨kd, ka⟩ else l) = l
        rw [if_neg hz']
      simp only [this]; exact h
    case inr.inr.inr.inr.inr.inr.inr =>
      have : (l.turn 7 ⟨7, kp, kd, ka⟩).2 = l := by
        have hz' : ¬ (if kd ≤ l.c.expiry then (3 : Int) else 0) = 0 := hz
        show (if kd ≤ l.c.expiry then l else l.expire) = l
        split
        · rfl
        · rename_i h1; rw [if_neg h1] at hz'; exact absurd rfl hz'
      simp only [this]; exact h
    all_goals exact absurd rfl hz
  unfold Lf.step
  rw [stepW_done hok hla hc2 hby hz]
  obtain ⟨q1, q2, q3, q4, q5, q6, q7, q8⟩ := h
  have hh : Scd c l := ⟨q1, q2, q3, q4, q5, q6, q7, q8⟩
  rcases eight k0 k7 with rfl | rfl | rfl | rfl | rfl | rfl | rfl | rfl <;> simp at hst
  · exact scd_push hh (by omega) rfl ⟨by simp, by simp, by simp⟩ (by simpa [scanE, Lf.turn] using q1) (by simp [Lf.turn]) (by simp [scanE, q3, Lf.turn, hst]) (by simp) (by simpa [Lf.turn] using q6) (by simp [Lf.turn]) ha
  · exact scd_push hh (by omega) rfl ⟨by simp, by simp, by simp⟩ (by simpa [scanE, Lf.turn] using q1) (by simp [Lf.turn, hst]) (by simp [scanE, q3, Lf.turn, hst]) (by simp) (by simpa [Lf.turn] using q6) (by simp [Lf.turn, hst]) ha
  · have hz' : mayCode c l.paid ⟨kd, ka⟩ = 0 := by rw [← g.cr]; exact hz
    obtain ⟨m1, m2, m3, m4⟩ := may_ok hz'
    have ht : (l.turn 2 ⟨2, kp, kd, ka⟩).2 = l.present ⟨kd, ka⟩ := by
      show (if mayCode l.c l.paid ⟨kd, ka⟩ = 0 then l.present ⟨kd, ka⟩ else l) = _
      rw [g.cr, if_pos hz']
    simp only [ht]
    rw [dsum_append] at m4
    simp only [dsum] at m4
    refine scd_push hh (by omega) rfl ⟨fun _ => ⟨by rw [q3]; simp; omega, m3⟩, by simp, by simp⟩ (by simpa [scanE, Lf.present] using q1) (by simp [scanE, Lf.present]) (by simp [scanE, q3, Lf.present]; omega) (by simp) (by simpa [Lf.present] using q6) (fun _ => by simp only [Lf.present]; omega) ha
  · exact scd_push hh (by omega) rfl ⟨by simp, by simp, by simp⟩ (by simpa [scanE, Lf.turn, Lf.refuse] using q1) (by simp [Lf.turn, Lf.refuse]) (by simp [scanE, q3, Lf.turn, Lf.refuse, hst]) (by simp) (by simpa [Lf.turn, Lf.refuse] using q6) (by simp [Lf.turn, Lf.refuse]) ha
  · exact scd_push hh (by omega) rfl ⟨by simp, by simp, by simp⟩ (by simpa [scanE, Lf.turn] using q1) (fun _ => by simpa [scanE, Lf.turn] using q2 (.inl hst)) (by simp [scanE, q3, Lf.turn, hst]) (by simp) (by simpa [Lf.turn] using q6) (fun _ => by simpa [Lf.turn] using q7 (.inl hst)) ha
  · have hq2 := q2 (.inr hst)
    have hq7 := q7 (.inr hst)
    have e1 : (l.turn 5 ⟨5, kp, kd, ka⟩).2 = l.pay := rfl
    simp only [e1]
    refine scd_push hh (by omega) rfl ⟨by simp, by simp, by simp⟩ ?_ (by simp [Lf.pay]) (by simp [scanE, Lf.pay]) (by simp) ?_ (by simp [Lf.pay]) ha
    · simp only [Lf.pay, dsum_append, dsum, scanE]; simp; omega
    · simp only [Lf.pay, dsum_append, dsum]; omega
  · have e1 : (l.turn 6 ⟨6, kp, kd, ka⟩).2 = l.repay := rfl
    simp only [e1]
    have hb' : kp = l.payer := hby
    unfold Lf.payer at hb'
    rw [hs1, hs3] at hb'
    have d13 := hl.d13
    unfold Lf.repay
    cases hc : (l.cf && !l.rp)
    · rw [hc, if_neg (by simp)] at hb'
      rw [if_neg (by simp)]
      exact scd_push hh (by omega) rfl ⟨by simp, fun _ => by rw [q3]; simp [hst], by simp⟩ (by simpa [scanE] using q1) (by simp) (by simp [scanE, hb']) (by simp) (by simpa using q6) (by simp) ha
    · rw [hc, if_pos rfl] at hb'
      rw [if_pos rfl]
      have hne : ¬ kp = c.s1 := by rw [hb']; exact fun h => d13 h.symm
      exact scd_push hh (by omega) rfl ⟨by simp, fun _ => by rw [q3]; simp [hst], by simp⟩ (by simpa [scanE] using q1) (by simp [hst]) (by simp [scanE, hne, q3]) (by simp) (by simpa using q6) (by simp [hst]) ha
  · have hz' : ¬ kd ≤ c.expiry := by
      intro h1
      have hz2 : (if kd ≤ l.c.expiry then (3 : Int) else 0) = 0 := hz
      rw [g.cr, if_pos h1] at hz2
      cases hz2
    have ht : (l.turn 7 ⟨7, kp, kd, ka⟩).2 = l.expire := by
      show (if kd ≤ l.c.expiry then l else l.expire) = _
      rw [g.cr, if_neg hz']
    simp only [ht]
    exact scd_push hh (by omega) rfl ⟨by simp, by simp, fun _ => ⟨by rw [q3]; simp; omega, by simp only; omega⟩⟩ (by simpa [scanE, Lf.expire] using q1) (by simp [Lf.expire]) (by simp [scanE, q3, Lf.expire]; omega) (by simp [Lf.expire]) (by simpa [Lf.expire] using q6) (by simp [Lf.expire]) ha
theorem most_nn {c : Cr} (h : c.bnd = true) : 0 ≤ c.most ∧ c.most ≤ 2199023255552 := by
  have hb := (bnd_iff c).1 h
  obtain ⟨h1, h2, h3, h4, h5, h6, h7, h8⟩ := hb
  obtain ⟨m1, m2, m3, m4⟩ := most_bd c.sum c.above h1 h2 h3 h4
  unfold Cr.most
  omega
theorem lifeOf_scd {c : Cr} (hl : c.Lives) (hc : c.bare = c) (es : List Ev) : Scd c (lifeOf c es) := by
  have : ∀ (es : List Ev) (l : Lf), l.good c → Scd c l → Scd c (es.foldl (fun l e => (l.step e).2) l) := by
    intro es
    induction es with
    | nil => intro l _ h; exact h
    | cons e r ih => intro l g h; exact ih _ (step_good g e) (step_scd hl g h e)
  exact this es _ (hc ▸ new_good c) (scd_new c (most_nn hl.bnd).1)
end Go.Proofs.Ytjabjfkfoenmlaa.Sc
