/- The chapter's example. -/
import Derived.Test.YtnlfhncbnfmccaaGrown26
namespace Go.Proofs.Ytnlfhncbnfmccaa.Sc
open Go Go.RowKit Go.ChangeShapes Go.WideShapes Go.ChangeAt
set_option maxRecDepth 100000

theorem rankX_any {w : World} {F : Nat → Prop} {bk bm : Nat} {l : List Pg} (h : Lx w F bk bm l) (t : ByteArray) (hl : l.length ≤ 39) : Calls Try.prog 13 #[.pointer (some ⟨bk, 0, none⟩), .string t] w (RetRow w 37 6 (rankOf (ofT l t)).length (pgCells (rankOf (ofT l t)))) := by
  obtain ⟨es, h⟩ := h
  exact rank_any h t (Nat.le_trans (ofT_le l t) hl)
theorem freeX_any {w : World} {F : Nat → Prop} {bk bm : Nat} {l : List Pg} (h : Lx w F bk bm l) (t : ByteArray) : Calls Try.prog 16 #[.pointer (some ⟨bk, 0, none⟩), .string t] w (RetB w (decide ((ofT l t).length = 0))) := by
  obtain ⟨es, h⟩ := h
  exact free_any h t
theorem mayX_any {w : World} {F : Nat → Prop} {bk bm : Nat} {l : List Pg} (h : Lx w F bk bm l) (t who : ByteArray) : Calls Try.prog 18 #[.pointer (some ⟨bk, 0, none⟩), .string t, .string who] w (RetB w (!(ofT l t).any fun x => !decide (x.cred = who))) := by
  obtain ⟨es, h⟩ := h
  exact mayWho_any h t who
def aw1 : Pg := ⟨⟨#[116]⟩, ⟨#[100]⟩, ⟨#[107]⟩, 5, 70, false⟩
def aw2 : Pg := ⟨⟨#[116]⟩, ⟨#[100]⟩, ⟨#[98]⟩, 9, 50, true⟩
def aw3 : Pg := ⟨⟨#[116]⟩, ⟨#[100]⟩, ⟨#[107]⟩, 5, 20, false⟩
def awE : List (ByteArray × Int) := [(⟨#[98]⟩, 50), (⟨#[107]⟩, 50)]
def awT : ByteArray := ⟨#[116]⟩
theorem aw_p1 {w : World} {F : Nat → Prop} {bk bm : Nat} (h : Lx w F bk bm []) : Calls Try.prog 24 #[.pointer (some ⟨bk, 0, none⟩), .agg #[.string ⟨#[116]⟩, .string ⟨#[100]⟩, .string ⟨#[107]⟩, .int .i64 5, .int .i64 70, .bool false]] w (LxP w F bk bm [aw1] (.int .i64 0)) := by
  have := pledgeX_any h aw1 (by decide)
  rwa [show pledgeL [] aw1 = [aw1] by kernel_rfl, show pledgeC [] aw1 = 0 by kernel_rfl] at this
theorem aw_p2 {w : World} {F : Nat → Prop} {bk bm : Nat} (h : Lx w F bk bm [aw1]) : Calls Try.prog 24 #[.pointer (some ⟨bk, 0, none⟩), .agg #[.string ⟨#[116]⟩, .string ⟨#[100]⟩, .string ⟨#[98]⟩, .int .i64 9, .int .i64 50, .bool true]] w (LxP w F bk bm [aw1, aw2] (.int .i64 0)) := by
  have := pledgeX_any h aw2 (by decide)
  rwa [show pledgeL [aw1] aw2 = [aw1, aw2] by kernel_rfl, show pledgeC [aw1] aw2 = 0 by kernel_rfl] at this
theorem aw_ok : LnOk [aw1, aw2] := by
  have := deeds_ok [⟨0, aw1, 0⟩, ⟨0, aw2, 0⟩]
  rwa [show deeds [⟨0, aw1, 0⟩, ⟨0, aw2, 0⟩] = [aw1, aw2] by kernel_rfl] at this
def AwPay (w : World) (F : Nat → Prop) (bk bm : Nat) (e : Ending) (w' : World) : Prop :=
  ∃ F' b off cap, e = .returned (.tuple #[.slice (some ⟨b, off, none⟩) 2 cap, .int .i64 0, .int .i64 0]) ∧ Lx w' F' bk bm [aw3] ∧ (∀ k, F' k → F k ∨ w.heap.size ≤ k) ∧ Keep F w w' ∧ b < w'.heap.size ∧
    w'.cell? ⟨b, off, none⟩ = some (.string ⟨#[98]⟩) ∧ w'.cell? ⟨b, off + 2, none⟩ = some (.int .i64 50) ∧ w'.cell? ⟨b, off + 3 + 2, none⟩ = some (.int .i64 50)
theorem aw_pay {w : World} {F : Nat → Prop} {bk bm : Nat} (h : Lx w F bk bm [aw1, aw2]) : Calls Try.prog 14 #[.pointer (some ⟨bk, 0, none⟩), .string ⟨#[116]⟩, .int .i64 100] w (AwPay w F bk bm) := by
  have := payX_any h aw_ok awT 100 (by decide) (by decide) (by rw [show ofT [aw1, aw2] awT = [aw1, aw2] by kernel_rfl]; simp)
  unfold PayXP at this
  rw [show payE (rankOf (ofT [aw1, aw2] awT)) 100 = awE by kernel_rfl, show payS (rankOf (ofT [aw1, aw2] awT)) 100 = 0 by kernel_rfl, show paidL [aw1, aw2] awT awE = [aw3] by kernel_rfl] at this
  refine this.mono ?_
  rintro e w' ⟨F', v, rfl, hx, hf, hk, hs⟩
  obtain ⟨b, off, cap, rfl, hb⟩ : ∃ b off cap, v = .slice (some ⟨b, off, none⟩) 2 cap ∧ b < w'.heap.size := by
    rcases hs with ⟨h, _⟩ | ⟨b, off, cap, rfl, hb, _⟩
    · cases h
    · exact ⟨b, off, cap, rfl, hb⟩
  rcases hs with ⟨h, _⟩ | ⟨b', off', cap', he, _, _, _, hc⟩
  · cases h
  cases he
  exact ⟨F', b, off, cap, rfl, hx, hf, hk, hb, hc 0 _ rfl 0 _ rfl, hc 0 _ rfl 2 _ rfl, hc 1 _ rfl 2 _ rfl⟩
def AwRank (w : World) (e : Ending) (w' : World) : Prop := ∃ b off cap, e = .returned (.slice (some ⟨b, off, none⟩) 1 cap) ∧ Below w.heap.size w w' ∧ w'.cell? ⟨b, off + 4, none⟩ = some (.int .i64 20)
theorem aw_rank {w : World} {F : Nat → Prop} {bk bm : Nat} (h : Lx w F bk bm [aw3]) : Calls Try.prog 13 #[.pointer (some ⟨bk, 0, none⟩), .string ⟨#[116]⟩] w (AwRank w) := by
  have := rankX_any h awT (by decide)
  rw [show rankOf (ofT [aw3] awT) = [aw3] by kernel_rfl] at this
  refine this.mono ?_
  rintro e w' ⟨v, rfl, ho, hb⟩
  rcases own_pgs ho rfl with ⟨h, _⟩ | ⟨b, off, cap, rfl, _, _, _, hc⟩
  · cases h
  · exact ⟨b, off, cap, rfl, hb, hc 0 _ rfl 4 _ rfl⟩
set_option maxHeartbeats 4000000 in
theorem awake_any (w : World) : Calls Try.prog 10 #[] w (RetB w true) := by
  have HNW := Lib.hid (newX_any w)
  go_enter Try.func10, Try.ntmps10
  go_wp2_with (first
    | ((with_reducible refine HNW.out.mono ?_); rintro e w1 ⟨F, bk, bm, rfl, hx, hF, hb⟩; have HB := Lib.hid hb; have HF := Lib.hid hF; have HP1 := Lib.hid (aw_p1 hx); clear hx hF hb)
    | ((with_reducible refine HP1.out.mono ?_); rintro e w2 ⟨F2, rfl, hx, hF, hk⟩; have HF2 : Hid (∀ k, F2 k → w.heap.size ≤ k) := Lib.hid (fun k h => (hF k h).elim (HF.out k) (Nat.le_trans HB.out.size)); have HB := Lib.hid (Keep.behind HB.out hk HB.out.size (fun j hj h => absurd (HF.out j h) (by omega))); have HP2 := Lib.hid (aw_p2 hx); clear hx hF hk)
    | ((with_reducible refine HP2.out.mono ?_); rintro e w3 ⟨F3, rfl, hx, hF, hk⟩; have HF3 : Hid (∀ k, F3 k → w.heap.size ≤ k) := Lib.hid (fun k h => (hF k h).elim (HF2.out k) (Nat.le_trans HB.out.size)); have HB := Lib.hid (Keep.behind HB.out hk HB.out.size (fun j hj h => absurd (HF2.out j h) (by omega))); have HPA := Lib.hid (aw_pay hx); clear hx hF hk)
    | ((with_reducible refine HPA.out.mono ?_); rintro e w4 ⟨F4, b4, off4, cap4, rfl, hx, hF, hk, hb4, c0, c1, c2⟩; have HB := Lib.hid (Keep.behind HB.out hk HB.out.size (fun j hj h => absurd (HF3.out j h) (by omega))); have HRK := Lib.hid (aw_rank hx); have HC := Lib.hid (And.intro hb4 (And.intro c0 (And.intro c1 c2))); clear hx hF hk hb4 c0 c1 c2)
    | ((with_reducible refine HRK.out.mono ?_); rintro e w5 ⟨b5, off5, cap5, rfl, hb5, d0⟩; have HB := Lib.hid (HB.out.trans (hb5.mono HB.out.size)); have c0 := (hb5.cell (p := ⟨b4, off4, none⟩) HC.out.1).trans HC.out.2.1; have c1 := (hb5.cell (p := ⟨b4, off4 + 2, none⟩) HC.out.1).trans HC.out.2.2.1; have c2 := (hb5.cell (p := ⟨b4, off4 + 3 + 2, none⟩) HC.out.1).trans HC.out.2.2.2; clear hb5)
    | fail)
  go_ret
  exact ⟨rfl, HB.out⟩
end Go.Proofs.Ytnlfhncbnfmccaa.Sc
