/- To the end: the plain law of UndertakeWay. -/
import Derived.Test.YtjabjfkfoenmlaaInv34
namespace Go.Proofs.Ytjabjfkfoenmlaa.Sc
open Go Go.RowKit Go.ChangeShapes Go.WideShapes Go.ChangeAt
set_option maxRecDepth 100000

def goes : Lf → List Ev → Lf → Prop
  | l, [], l' => l = l'
  | l, e :: r, l' => (l.step e).1 = 0 ∧ goes (l.step e).2 r l'
def onL (l : Lf) (es : List Ev) : Lf := es.foldl (fun l e => (l.step e).2) l
theorem onL_take (l : Lf) (es : List Ev) (k : Nat) (h : k < es.length) : onL l (es.take (k + 1)) = ((onL l (es.take k)).step es[k]).2 := by
  rw [onL, List.take_succ_eq_append_getElem h, List.foldl_append]; rfl
theorem goes_end (es : List Ev) : ∀ (l l' : Lf), goes l es l' → onL l es = l' := by
  induction es with
  | nil => intro l l' h; exact h
  | cons e r ih => intro l l' h; exact ih (l.step e).2 l' h.2
theorem goes_at (es : List Ev) : ∀ (l l' : Lf), goes l es l' → ∀ (k : Nat) (h : k < es.length), ((onL l (es.take k)).step es[k]).1 = 0 := by
  induction es with
  | nil => intro l l' _ k h; simp at h
  | cons e r ih =>
    intro l l' h k hk
    cases k with
    | zero => exact h.1
    | succ k =>
      have := ih (l.step e).2 l' h.2 k (by simpa using hk)
      simp only [List.take_succ_cons, List.getElem_cons_succ]
      exact this
theorem goes_step {l l1 l' : Lf} {e : Ev} {r : List Ev} (h : l.step e = (0, l1)) (h2 : goes l1 r l') : goes l (e :: r) l' := by
  refine ⟨by rw [h], by rw [h]; exact h2⟩

theorem step_go {l l1 : Lf} {e : Ev} (hk : 0 ≤ e.kind ∧ e.kind ≤ 7) (hn : nameOk e.party = true) (hd : 0 ≤ e.day ∧ e.day ≤ 1048576) (ha : if e.kind = 2 then 1 ≤ e.amt ∧ e.amt ≤ 1099511627776 else e.amt = 0)
    (hl : ∀ x, l.evs.getLast? = some x → x.day ≤ e.day) (hs : 0 ≤ l.st ∧ l.st ≤ 7)
    (hbit : (if e.kind = 0 then decide (l.st = 0) else if e.kind = 1 then decide (l.st = 1) else if e.kind = 2 then decide (l.st = 1 ∨ l.st = 3 ∨ l.st = 6) else if e.kind = 3 ∨ e.kind = 4 then decide (l.st = 2)
      else if e.kind = 5 then decide (l.st = 4) else if e.kind = 6 then decide (l.st = 5) else decide (l.st = 0 ∨ l.st = 1 ∨ l.st = 3 ∨ l.st = 6)) = true)
    (hm : l.mayB e.kind = true) (hby : e.party = l.byv e.kind) (ht : l.turn e.kind e = (0, l1)) : l.step e = (0, { l1 with evs := l1.evs ++ [e] }) := by
  have hok : e.ok = true := by
    simp only [Ev.ok, Bool.and_eq_true, decide_eq_true_eq]
    refine ⟨⟨⟨hk, hn⟩, hd⟩, ?_⟩
    split at ha
    · rename_i h; rw [if_pos h]; simp [ha]
    · rename_i h; rw [if_neg h]; simp [ha]
  have hla : l.late e = false := by
    unfold Lf.late
    cases h : l.evs.getLast? with
    | none => rfl
    | some x => have := hl x h; simp; omega
  have hca : l.can e.kind = true := by
    unfold Lf.can
    rw [bit_st e.kind l.st hk.1 hk.2 hs.1 hs.2, hbit, hm]; rfl
  have hz : (l.turn e.kind e).1 = 0 := by rw [ht]
  have := stepW_done (T := Lf.turn) hok hla hca hby hz
  rw [ht] at this
  exact this

structure WayIn (t : Tm) (am d0 d1 d2 d3 d4 d5 : Int) : Prop where
  bnd : t.cr.bnd = true
  n1 : nameOk t.app = true
  n2 : nameOk t.ben = true
  n3 : nameOk t.iss = true
  n4 : t.con.toList.isEmpty = true ∨ nameOk t.con = true
  am1 : 1 ≤ am
  am2 : am ≤ t.cr.most
  am3 : am ≤ 1099511627776
  lst : t.part = false → t.cr.least ≤ am
  h0 : 0 ≤ d0
  h1 : d0 ≤ d1
  h2 : d1 ≤ d2
  h3 : d2 ≤ d3
  h4 : d3 ≤ d4
  h5 : d4 ≤ d5
  ex : d2 ≤ t.expiry
  mx : d5 ≤ 1048576
theorem lives_names' {t : Tm} (h : t.cr.lives = true) : t.cr.bnd = true ∧ nameOk t.app = true ∧ nameOk t.ben = true ∧ nameOk t.iss = true ∧ (t.con.toList.isEmpty = true ∨ nameOk t.con = true) := by
  unfold Cr.lives at h
  simp only [Bool.and_eq_true, Bool.or_eq_true] at h
  obtain ⟨h1, ⟨h2, h3, h4⟩, _, h8⟩ := h
  exact ⟨h1, h3, h4, h2, h8.imp id fun h => h.1⟩

section
variable {t : Tm} {am d0 d1 d2 d3 d4 d5 : Int} (H : WayIn t am d0 d1 d2 d3 d4 d5) {n : Dr} {p : List Dr} {E : List Ev} {d : Int} {cf rp : Bool}
include H
def lastLe (E : List Ev) (d : Int) : Prop := ∀ x, E.getLast? = some x → x.day ≤ d
theorem adv_go (hd : 0 ≤ d ∧ d ≤ 1048576) (hE : lastLe E d) : (⟨t.cr, 0, cf, rp, n, p, E⟩ : Lf).step ⟨0, t.iss, d, 0⟩ = (0, ⟨t.cr, 1, cf, rp, n, p, E ++ [⟨0, t.iss, d, 0⟩]⟩) :=
  step_go (l1 := ⟨t.cr, 1, cf, rp, n, p, E⟩) ⟨by simp, by simp⟩ H.n3 hd (by simp) hE ⟨by simp, by simp⟩ (by simp) rfl rfl rfl
theorem conf_go (hd : 0 ≤ d ∧ d ≤ 1048576) (hE : lastLe E d) (hc : t.con.toList.isEmpty = false) : (⟨t.cr, 1, false, rp, n, p, E⟩ : Lf).step ⟨1, t.con, d, 0⟩ = (0, ⟨t.cr, 1, true, rp, n, p, E ++ [⟨1, t.con, d, 0⟩]⟩) :=
  step_go (l1 := ⟨t.cr, 1, true, rp, n, p, E⟩) ⟨by simp, by simp⟩ (H.n4.resolve_left (by simp [hc])) hd (by simp) hE ⟨by simp, by simp⟩ (by simp) (by simp [Lf.mayB, Tm.cr, hc]) rfl rfl
theorem pres_go (s : Int) (hs : s = 1 ∨ s = 3) (hd : 0 ≤ d2) (hd2 : d2 ≤ 1048576) (hE : lastLe E d2) : (⟨t.cr, s, cf, rp, n, [], E⟩ : Lf).step ⟨2, t.ben, d2, am⟩ = (0, ⟨t.cr, 2, cf, rp, ⟨d2, am⟩, [], E ++ [⟨2, t.ben, d2, am⟩]⟩) := by
  have hm : mayCode t.cr [] ⟨d2, am⟩ = 0 := by
    have h1 := H.am1
    have h2 := H.am2
    have h3 := H.am3
    have h4 := H.ex
    have hdr : draws ([] ++ [⟨d2, am⟩]) = true := by
      simp [draws, drawsFrom, drOk]
      omega
    unfold mayCode mayArg
    rw [H.bnd, hdr]
    rw [if_neg (by simp), if_neg (by show ¬ t.expiry < d2; omega), if_neg (by simp), if_neg (by simp [dsum]; omega), if_neg (by
      rintro ⟨h5, h6⟩
      have := H.lst h5
      simp only at h6
      omega)]
  refine step_go (l1 := ⟨t.cr, 2, cf, rp, ⟨d2, am⟩, [], E⟩) ⟨by simp, by simp⟩ H.n2 ⟨hd, hd2⟩ (by simp; exact ⟨H.am1, H.am3⟩) hE (by rcases hs with rfl | rfl <;> exact ⟨by simp, by simp⟩) (by rcases hs with rfl | rfl <;> simp) rfl rfl ?_
  show (mayCode t.cr [] ⟨d2, am⟩, if mayCode t.cr [] ⟨d2, am⟩ = 0 then (⟨t.cr, s, cf, rp, n, [], E⟩ : Lf).present ⟨d2, am⟩ else ⟨t.cr, s, cf, rp, n, [], E⟩) = _
  rw [hm, if_pos rfl]
  rfl
omit H in
theorem refu_go (hd : 0 ≤ d ∧ d ≤ 1048576) (hE : lastLe E d) (bk : ByteArray) (hb : bk = (if cf then t.con else t.iss)) (hn : nameOk bk = true) : (⟨t.cr, 2, cf, rp, n, p, E⟩ : Lf).step ⟨3, bk, d, 0⟩ = (0, ⟨t.cr, 3, cf, rp, ⟨0, 0⟩, p, E ++ [⟨3, bk, d, 0⟩]⟩) :=
  step_go (l1 := ⟨t.cr, 3, cf, rp, ⟨0, 0⟩, p, E⟩) ⟨by simp, by simp⟩ hn hd (by simp) hE ⟨by simp, by simp⟩ (by simp) rfl hb rfl
omit H in
theorem hon_go (hd : 0 ≤ d ∧ d ≤ 1048576) (hE : lastLe E d) (bk : ByteArray) (hb : bk = (if cf then t.con else t.iss)) (hn : nameOk bk = true) : (⟨t.cr, 2, cf, rp, n, p, E⟩ : Lf).step ⟨4, bk, d, 0⟩ = (0, ⟨t.cr, 4, cf, rp, n, p, E ++ [⟨4, bk, d, 0⟩]⟩) :=
  step_go (l1 := ⟨t.cr, 4, cf, rp, n, p, E⟩) ⟨by simp, by simp⟩ hn hd (by simp) hE ⟨by simp, by simp⟩ (by simp) rfl hb rfl
omit H in
theorem pay_go (hd : 0 ≤ d ∧ d ≤ 1048576) (hE : lastLe E d) (bk : ByteArray) (hb : bk = (if cf then t.con else t.iss)) (hn : nameOk bk = true) : (⟨t.cr, 4, cf, rp, n, p, E⟩ : Lf).step ⟨5, bk, d, 0⟩ = (0, ⟨t.cr, 5, cf, false, n, p ++ [n], E ++ [⟨5, bk, d, 0⟩]⟩) :=
  step_go (l1 := ⟨t.cr, 5, cf, false, n, p ++ [n], E⟩) ⟨by simp, by simp⟩ hn hd (by simp) hE ⟨by simp, by simp⟩ (by simp) rfl hb rfl
theorem reim_go (hd : 0 ≤ d ∧ d ≤ 1048576) (hE : lastLe E d) : (⟨t.cr, 5, true, false, n, p, E⟩ : Lf).step ⟨6, t.iss, d, 0⟩ = (0, ⟨t.cr, 5, true, true, n, p, E ++ [⟨6, t.iss, d, 0⟩]⟩) :=
  step_go (l1 := ⟨t.cr, 5, true, true, n, p, E⟩) ⟨by simp, by simp⟩ H.n3 hd (by simp) hE ⟨by simp, by simp⟩ (by simp) rfl rfl rfl
theorem last_go (hd : 0 ≤ d ∧ d ≤ 1048576) (hE : lastLe E d) (hc : (cf && !rp) = false) : (⟨t.cr, 5, cf, rp, n, p, E⟩ : Lf).step ⟨6, t.app, d, 0⟩ = (0, ⟨t.cr, 6, cf, rp, n, p, E ++ [⟨6, t.app, d, 0⟩]⟩) :=
  step_go (l1 := ⟨t.cr, 6, cf, rp, n, p, E⟩) ⟨by simp, by simp⟩ H.n1 hd (by simp) hE ⟨by simp, by simp⟩ (by simp) rfl (by simp [Lf.byv, Lf.payer, hc]; rfl) (by show (0, Lf.repay _) = _; simp [Lf.repay, hc])
end

/-- The events of the way. -/
def wayEs (t : Tm) (am d0 d1 d2 d3 d4 d5 : Int) : Bool → Bool → List Ev
  | false, false => [⟨0, t.iss, d0, 0⟩, ⟨2, t.ben, d2, am⟩, ⟨4, t.iss, d3, 0⟩, ⟨5, t.iss, d4, 0⟩, ⟨6, t.app, d5, 0⟩]
  | false, true => [⟨0, t.iss, d0, 0⟩, ⟨2, t.ben, d2, am⟩, ⟨3, t.iss, d2, 0⟩, ⟨2, t.ben, d2, am⟩, ⟨4, t.iss, d3, 0⟩, ⟨5, t.iss, d4, 0⟩, ⟨6, t.app, d5, 0⟩]
  | true, false => [⟨0, t.iss, d0, 0⟩, ⟨1, t.con, d1, 0⟩, ⟨2, t.ben, d2, am⟩, ⟨4, t.con, d3, 0⟩, ⟨5, t.con, d4, 0⟩, ⟨6, t.iss, d5, 0⟩, ⟨6, t.app, d5, 0⟩]
  | true, true => [⟨0, t.iss, d0, 0⟩, ⟨1, t.con, d1, 0⟩, ⟨2, t.ben, d2, am⟩, ⟨3, t.con, d2, 0⟩, ⟨2, t.ben, d2, am⟩, ⟨4, t.con, d3, 0⟩, ⟨5, t.con, d4, 0⟩, ⟨6, t.iss, d5, 0⟩, ⟨6, t.app, d5, 0⟩]
theorem lastLe_nil (d : Int) : lastLe [] d := by intro x h; simp at h
theorem lastLe_snoc {E : List Ev} {e : Ev} {d : Int} (h : e.day ≤ d) : lastLe (E ++ [e]) d := by intro x hx; simp at hx; subst hx; exact h
theorem way_goes {t : Tm} {am d0 d1 d2 d3 d4 d5 : Int} (H : WayIn t am d0 d1 d2 d3 d4 d5) (cf rf : Bool) (hcf : cf = !t.con.toList.isEmpty) :
    ∃ l', goes (Lf.new t.cr) (wayEs t am d0 d1 d2 d3 d4 d5 cf rf) l' ∧ l'.c = t.cr ∧ l'.st = 6 ∧ l'.evs = wayEs t am d0 d1 d2 d3 d4 d5 cf rf := by
  have h0 := H.h0
  have h1 := H.h1
  have h2 := H.h2
  have h3 := H.h3
  have h4 := H.h4
  have h5 := H.h5
  have mx := H.mx
  have hd0 : 0 ≤ d0 ∧ d0 ≤ 1048576 := by omega
  have hd1 : 0 ≤ d1 ∧ d1 ≤ 1048576 := by omega
  have hd2 : 0 ≤ d2 ∧ d2 ≤ 1048576 := by omega
  have hd3 : 0 ≤ d3 ∧ d3 ≤ 1048576 := by omega
  have hd4 : 0 ≤ d4 ∧ d4 ≤ 1048576 := by omega
  have hd5 : 0 ≤ d5 ∧ d5 ≤ 1048576 := by omega
  cases cf <;> cases rf
  · refine ⟨_, goes_step (adv_go H hd0 (lastLe_nil _)) (goes_step (pres_go H 1 (.inl rfl) hd2.1 hd2.2 (lastLe_snoc (by simp; omega))) (goes_step (hon_go hd3 (lastLe_snoc (by simp; omega)) t.iss rfl H.n3) (goes_step (pay_go hd4 (lastLe_snoc (by simp; omega)) t.iss rfl H.n3)
      (goes_step (last_go H hd5 (lastLe_snoc (by simp; omega)) rfl) rfl)))), rfl, rfl, rfl⟩
  · refine ⟨_, goes_step (adv_go H hd0 (lastLe_nil _)) (goes_step (pres_go H 1 (.inl rfl) hd2.1 hd2.2 (lastLe_snoc (by simp; omega))) (goes_step (refu_go hd2 (lastLe_snoc (by simp)) t.iss rfl H.n3) (goes_step (pres_go H 3 (.inr rfl) hd2.1 hd2.2 (lastLe_snoc (by simp)))
      (goes_step (hon_go hd3 (lastLe_snoc (by simp; omega)) t.iss rfl H.n3) (goes_step (pay_go hd4 (lastLe_snoc (by simp; omega)) t.iss rfl H.n3)
      (goes_step (last_go H hd5 (lastLe_snoc (by simp; omega)) rfl) rfl)))))), rfl, rfl, rfl⟩
  · have hc : t.con.toList.isEmpty = false := by simpa using hcf
    have hn := H.n4.resolve_left (by simp [hc])
    refine ⟨_, goes_step (adv_go H hd0 (lastLe_nil _)) (goes_step (conf_go H hd1 (lastLe_snoc (by simp; omega)) hc) (goes_step (pres_go H 1 (.inl rfl) hd2.1 hd2.2 (lastLe_snoc (by simp; omega))) (goes_step (hon_go hd3 (lastLe_snoc (by simp; omega)) t.con rfl hn) (goes_step (pay_go hd4 (lastLe_snoc (by simp; omega)) t.con rfl hn)
      (goes_step (reim_go H hd5 (lastLe_snoc (by simp; omega))) (goes_step (last_go H hd5 (lastLe_snoc (by simp)) rfl) rfl)))))), rfl, rfl, rfl⟩
  · have hc : t.con.toList.isEmpty = false := by simpa using hcf
    have hn := H.n4.resolve_left (by simp [hc])
    refine ⟨_, goes_step (adv_go H hd0 (lastLe_nil _)) (goes_step (conf_go H hd1 (lastLe_snoc (by simp; omega)) hc) (goes_step (pres_go H 1 (.inl rfl) hd2.1 hd2.2 (lastLe_snoc (by simp; omega))) (goes_step (refu_go hd2 (lastLe_snoc (by simp)) t.con rfl hn) (goes_step (pres_go H 3 (.inr rfl) hd2.1 hd2.2 (lastLe_snoc (by simp)))
      (goes_step (hon_go hd3 (lastLe_snoc (by simp; omega)) t.con rfl hn) (goes_step (pay_go hd4 (lastLe_snoc (by simp; omega)) t.con rfl hn)
      (goes_step (reim_go H hd5 (lastLe_snoc (by simp; omega))) (goes_step (last_go H hd5 (lastLe_snoc (by simp)) rfl) rfl)))))))), rfl, rfl, rfl⟩
end Go.Proofs.Ytjabjfkfoenmlaa.Sc
