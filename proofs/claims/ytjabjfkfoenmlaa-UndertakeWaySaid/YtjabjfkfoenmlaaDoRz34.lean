/- Do of the reference: any event. -/
import Derived.Test.YtjabjfkfoenmlaaDoRb34
import Derived.Test.YtjabjfkfoenmlaaDoRc34
import Derived.Test.YtjabjfkfoenmlaaDoRd34
import Derived.Test.YtjabjfkfoenmlaaDoRe34
namespace Go.Proofs.Ytjabjfkfoenmlaa.Sc
open Go Go.RowKit Go.ChangeShapes Go.WideShapes Go.ChangeAt
set_option maxRecDepth 100000

set_option maxHeartbeats 4000000 in
theorem doR_bad (bk : Nat) (l : Lf) (F : Nat → Prop) (ev : Ev) (w : World) (h : Lv w 65 F bk l) (hok : ev.ok = false) (hsz : ev.party.size ≤ 9223372036854775807) :
    Calls Try.prog 28 #[.pointer (some ⟨bk, 0, none⟩), .agg ev.cells] w (AfterR w 65 F (l.stepR ev).1 bk (l.stepR ev).2) := by
  rw [stepR_bad hok]
  obtain ⟨k0, k1, k2, k3⟩ := ev
  simp only [Ev.cells]
  have HLV := Lib.hid h
  have HX1 : Hid ((w.alloc (.cells #[.int .i64 k0, .string k1, .int .i64 k2, .int .i64 k3] 40)).heap[w.heap.size]? = some (.cells #[.int .i64 k0, .string k1, .int .i64 k2, .int .i64 k3] 40 (0, 0))) := Lib.hid (heap_alloc_new _ _)
  have HO := Lib.hid (one_below w (.cells #[.int .i64 k0, .string k1, .int .i64 k2, .int .i64 k3] 40))
  have NM : Hid (∀ W, Calls Try.prog 30 #[.string k1] W (RetB W (nameOk k1))) := Lib.hid (fun W => refName6_any k1 W hsz)
  have HOK : Hid (¬ ((0 ≤ k0 ∧ k0 ≤ 7) ∧ nameOk k1 = true ∧ (0 ≤ k2 ∧ k2 ≤ 1048576) ∧ (if k0 = 2 then 1 ≤ k3 ∧ k3 ≤ 1099511627776 else k3 = 0))) := Lib.hid (by
    rintro ⟨⟨a1, a2⟩, a3, ⟨a4, a5⟩, a6⟩
    have : Ev.ok ⟨k0, k1, k2, k3⟩ = true := by
      simp only [Ev.ok, a1, a2, a3, a4, a5, decide_true, Bool.and_self, Bool.true_and]
      split at a6
      · rename_i h2; rw [if_pos h2]; simp [a6]
      · rename_i h2; rw [if_neg h2]; simp [a6]
    rw [this] at hok
    cases hok)
  clear h hok hsz
  cases hn : nameOk k1
  all_goals
    rw [hn] at NM HOK
    clear hn
    go_enter Try.func28, Try.ntmps28
    go_wp2_with (first | ((with_reducible refine (NM.out _).mono ?_); rintro e w2 ⟨rfl, hb2⟩; obtain ⟨x0, x1, x2, x3⟩ := ev_cells (blk hb2 (lt_blk HX1.out) HX1.out); have HBB := Lib.hid (below_new hb2); clear hb2) | fail)
    all_goals first
      | (go_ret
         first
           | exact afterR_same HLV.out HO.out rfl
           | exact afterR_same HLV.out HBB.out rfl)
      | (exfalso
         have h := HOK.out
         apply h
         refine ⟨⟨by omega, by omega⟩, by simp, ⟨by omega, by omega⟩, ?_⟩
         split
         · rename_i h2
           subst h2
           (simp at *) <;> omega
         · rename_i h2
           (simp [h2] at *) <;> omega)
theorem doRR_any (bk : Nat) (l : Lf) (F : Nat → Prop) (ev : Ev) (w : World) (h : Lv w 65 F bk l) (hfit : l.fit) (hnp : l.paid.length ≤ 4000) (hnv : l.evs.length ≤ 4000) (hsz : ev.party.size ≤ 9223372036854775807) :
    Calls Try.prog 28 #[.pointer (some ⟨bk, 0, none⟩), .agg ev.cells] w (AfterR w 65 F (l.stepR ev).1 bk (l.stepR ev).2) := by
  cases hok : ev.ok
  · exact doR_bad bk l F ev w h hok hsz
  · obtain ⟨h0, h7⟩ := ev_kind hok
    obtain ⟨k0, k1, k2, k3⟩ := ev
    simp only at h0 h7 hsz
    rcases eight h0 h7 with rfl | rfl | rfl | rfl | rfl | rfl | rfl | rfl
    · exact doR_k0 bk l F k1 k2 k3 w h hfit hnp hnv hok hsz
    · exact doR_k1 bk l F k1 k2 k3 w h hfit hnp hnv hok hsz
    · exact doR_k2 bk l F k1 k2 k3 w h hfit hnp hnv hok hsz
    · exact doR_k3 bk l F k1 k2 k3 w h hfit hnp hnv hok hsz
    · exact doR_k4 bk l F k1 k2 k3 w h hfit hnp hnv hok hsz
    · exact doR_k5 bk l F k1 k2 k3 w h hfit hnp hnv hok hsz
    · exact doR_k6 bk l F k1 k2 k3 w h hfit hnp hnv hok hsz
    · exact doR_k7 bk l F k1 k2 k3 w h hfit hnp hnv hok hsz
theorem doR_any (bk : Nat) (l : Lf) (F : Nat → Prop) (ev : Ev) (w : World) (h : Lv w 65 F bk l) (hfit : l.fit) (hnp : l.paid.length ≤ 4000) (hnv : l.evs.length ≤ 4000) (hsz : ev.party.size ≤ 9223372036854775807) :
    Calls Try.prog 28 #[.pointer (some ⟨bk, 0, none⟩), .agg ev.cells] w (AfterL w 65 F (l.stepR ev).1 bk (l.stepR ev).2) := by
  have hF : F bk := by obtain ⟨_, _, hw⟩ := h; exact hw.own
  exact (doRR_any bk l F ev w h hfit hnp hnv hsz).mono fun e w' h => h.l hF
end Go.Proofs.Ytjabjfkfoenmlaa.Sc
