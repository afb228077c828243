/- The two lives, step by step: alike but for a draw that was refused. -/
import Derived.Test.YtjabjfkfoenmlaaInv34
import Derived.Test.YtjabjfkfoenmlaaDoRz34
namespace Go.Proofs.Ytjabjfkfoenmlaa.Sc
open Go Go.RowKit Go.ChangeShapes Go.WideShapes Go.ChangeAt
set_option maxRecDepth 100000

structure Sim (l x : Lf) : Prop where
  eq : x = { l with now := x.now }
  now : l.st = 2 ∨ l.st = 4 ∨ l.st = 5 → x.now = l.now
theorem sim_refl (l : Lf) : Sim l l := ⟨rfl, fun _ => rfl⟩
set_option maxHeartbeats 2000000 in
theorem sim_step {l x : Lf} (h : Sim l x) (s0 : 0 ≤ l.st) (s7 : l.st ≤ 7) (e : Ev) : (x.stepR e).1 = (l.step e).1 ∧ Sim (l.step e).2 (x.stepR e).2 := by
  obtain ⟨c, st, cf, rp, now, paid, evs⟩ := l
  obtain ⟨c', st', cf', rp', nx, paid', evs'⟩ := x
  obtain ⟨h1, h2⟩ := h
  simp only [Lf.mk.injEq] at h1
  obtain ⟨rfl, rfl, rfl, rfl, -, rfl, rfl⟩ := h1
  simp only at h2 s0 s7
  unfold Lf.step Lf.stepR
  have base : Sim ⟨c', st', cf', rp', now, paid', evs'⟩ ⟨c', st', cf', rp', nx, paid', evs'⟩ := ⟨rfl, h2⟩
  cases hok : e.ok
  · rw [stepW_bad hok, stepW_bad hok]; exact ⟨rfl, base⟩
  cases hla : Lf.late ⟨c', st', cf', rp', now, paid', evs'⟩ e
  case true => rw [stepW_late hok hla, stepW_late hok (l := ⟨c', st', cf', rp', nx, paid', evs'⟩) hla]; exact ⟨rfl, base⟩
  cases hca : Lf.can ⟨c', st', cf', rp', now, paid', evs'⟩ e.kind
  case false => rw [stepW_cant hok hla hca, stepW_cant hok (l := ⟨c', st', cf', rp', nx, paid', evs'⟩) hla hca]; exact ⟨rfl, base⟩
  by_cases hby : e.party = Lf.byv ⟨c', st', cf', rp', now, paid', evs'⟩ e.kind
  case neg => rw [stepW_other hok hla hca hby, stepW_other hok (l := ⟨c', st', cf', rp', nx, paid', evs'⟩) hla hca hby]; exact ⟨rfl, base⟩
  obtain ⟨k0, k7⟩ := ev_kind hok
  have hcx : Lf.can ⟨c', st', cf', rp', nx, paid', evs'⟩ e.kind = true := hca
  have hb := hca
  unfold Lf.can at hb
  rw [bit_st e.kind st' k0 k7 s0 s7, Bool.and_eq_true] at hb
  obtain ⟨hst, _⟩ := hb
  -- the last closure of both
  have key : (Lf.turnR ⟨c', st', cf', rp', nx, paid', evs'⟩ e.kind e).1 = (Lf.turn ⟨c', st', cf', rp', now, paid', evs'⟩ e.kind e).1 ∧ Sim (Lf.turn ⟨c', st', cf', rp', now, paid', evs'⟩ e.kind e).2 (Lf.turnR ⟨c', st', cf', rp', nx, paid', evs'⟩ e.kind e).2 := by
    obtain ⟨kk, kp, kd, ka⟩ := e
    simp only at k0 k7 hst ⊢
    clear hok hla hca hby hcx
    rcases eight k0 k7 with rfl | rfl | rfl | rfl | rfl | rfl | rfl | rfl <;> simp at hst
    · exact ⟨rfl, rfl, by simp [Lf.turn]⟩
    · exact ⟨rfl, rfl, by simp [Lf.turn, hst]⟩
    · refine ⟨rfl, ?_⟩
      show Sim (if mayCode c' paid' ⟨kd, ka⟩ = 0 then Lf.present ⟨c', st', cf', rp', now, paid', evs'⟩ ⟨kd, ka⟩ else ⟨c', st', cf', rp', now, paid', evs'⟩) (if mayCode c' paid' ⟨kd, ka⟩ = 0 then Lf.present ⟨c', st', cf', rp', nx, paid', evs'⟩ ⟨kd, ka⟩ else ⟨c', st', cf', rp', nx, paid', evs'⟩)
      split
      · exact ⟨rfl, fun _ => rfl⟩
      · exact base
    · exact ⟨rfl, rfl, by simp [Lf.turn, Lf.refuse]⟩
    · exact ⟨rfl, rfl, fun _ => h2 (.inl hst)⟩
    · refine ⟨rfl, ?_⟩
      obtain rfl : nx = now := h2 (.inr (.inl hst))
      exact ⟨rfl, fun _ => rfl⟩
    · refine ⟨rfl, ?_⟩
      obtain rfl : nx = now := h2 (.inr (.inr hst))
      exact sim_refl _
    · refine ⟨rfl, ?_⟩
      show Sim (if kd ≤ c'.expiry then _ else _) (if kd ≤ c'.expiry then _ else _)
      split
      · exact base
      · exact ⟨rfl, by simp [Lf.expire]⟩
  obtain ⟨key1, key2⟩ := key
  by_cases hz : (Lf.turn ⟨c', st', cf', rp', now, paid', evs'⟩ e.kind e).1 = 0
  · rw [stepW_done hok hla hca hby hz, stepW_done (T := Lf.turnR) hok (l := ⟨c', st', cf', rp', nx, paid', evs'⟩) hla hcx hby (key1.trans hz)]
    refine ⟨rfl, ?_, key2.now⟩
    have h3 := key2.eq
    generalize (Lf.turn ⟨c', st', cf', rp', now, paid', evs'⟩ e.kind e).2 = a at *
    generalize (Lf.turnR ⟨c', st', cf', rp', nx, paid', evs'⟩ e.kind e).2 = b at *
    rw [h3]
  · rw [stepW_code hok hla hca hby hz, stepW_code (T := Lf.turnR) hok (l := ⟨c', st', cf', rp', nx, paid', evs'⟩) hla hcx hby (by rw [key1]; exact hz)]
    exact ⟨key1, key2⟩
theorem sim_fit {c : Cr} {l x : Lf} (hl : c.Lives) (g : l.good c) (h : Sim l x) : x.fit ∧ x.evs = l.evs ∧ x.paid = l.paid := by
  have hf := good_fit hl g
  rw [h.eq]
  exact ⟨⟨hf.s0, hf.s7, hf.e1, hf.e2, hf.e3, hf.e4⟩, rfl, rfl⟩
end Go.Proofs.Ytjabjfkfoenmlaa.Sc
