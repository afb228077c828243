/- The statement DutyTells. -/
import Derived.Test.YtehlhfcaajhhaaaAwake45
import Derived.ChangeMaps5
namespace Go.Proofs.Ytehlhfcaajhhaaa.dutyTells
open Go.ChangeShapes Go.WideShapes Go.ChangeAt Go.RowKit Go Sc
set_option maxRecDepth 100000

theorem new_bad {w w' : World} {l : List Rt} {e : Ending} (h : NewP w l e w') (h0 : ¬ tarCode l = 0) : e = .returned (.tuple #[.pointer none, .int .i64 (tarCode l)]) ∧ Below w.heap.size w w' := by
  obtain ⟨hb, ⟨-, he⟩ | ⟨h1, -⟩⟩ := h
  · exact ⟨he, hb⟩
  · exact absurd h1 h0
set_option maxHeartbeats 8000000 in
theorem walk (w : World) (l : List Rt) (v : Value) (hs : Sl w 5 v (l.map Rt.row)) (hf : ∀ r ∈ l, r.fit) (c : ByteArray) (hc : c.size ≤ maxLen) (a : Int) (_ : (Lit.int .i64 a).wf = true) (o : ByteArray) (ho : o.size ≤ maxLen) :
    Calls Try.prog 3 #[v, .string c, .int .i64 a, .string o] w (RetB w true) := by
  have HAW := Lib.hid (fun W => awake_any W)
  have HS := Lib.hid hs
  have HF := Lib.hid hf
  have HWD := Lib.hid (wide_any l v w hs)
  cases hw : wideR l
  · rw [hw] at HWD
    have hl : l.length ≤ 40 := by
      simp only [wideR, Bool.or_eq_false_iff, decide_eq_false_iff_not] at hw
      omega
    cases ht : decide (100 < wrap64 ((c.size : Int) + o.size))
    · by_cases hk : tarCode l = 0
      · obtain ⟨p, hp⟩ : ∃ p, p = dutyP l c o a := ⟨_, rfl⟩
        obtain ⟨x, y⟩ := p
        have HNW : Hid (∀ W, Below w.heap.size w W → Calls Try.prog 11 #[v] W (NewT W l)) := Lib.hid (fun W hW => (tarNew_any l v W (HS.out.below hW (Nat.le_refl _)) (by omega) HF.out).mono fun e w' h => new_taf h hk HF.out)
        have HRN : Hid (∀ W, Below w.heap.size w W → Calls Try.prog 12 #[v] W (Ret W (.int .i64 0))) := Lib.hid (fun W hW => by have := refNew_any l v W (HS.out.below hW (Nat.le_refl _)) (by omega) HF.out; rwa [hk] at this)
        have HD : Hid (∀ W bt bm, Taf W bt bm l → Calls Try.prog 13 #[.pointer (some ⟨bt, 0, none⟩), .string c, .int .i64 a, .string o] W (Ret W (.tuple #[.int .i64 x, .int .i64 y]))) := Lib.hid (fun W bt bm h => by have := tarDuty_any l bt bm c o a W h hc ho; rwa [← hp] at this)
        have hok := (tar_nodup l [] hk (by simp [tEnts])).2
        have HRD : Hid (∀ W, Below w.heap.size w W → Calls Try.prog 14 #[v, .string c, .int .i64 a, .string o] W (Ret W (.tuple #[.int .i64 x, .int .i64 y]))) := Lib.hid (fun W hW => by have := refDuty_any l v c o a W (HS.out.below hW (Nat.le_refl _)) hok HF.out; rwa [← hp] at this)
        clear hs hf hw hl hk hp hok
        go_enter Try.func3, Try.ntmps3
        go_wp2_with (first
          | ((with_reducible refine HWD.out.mono ?_); rintro e w1 ⟨rfl, hb1⟩; have HB := Lib.hid hb1; clear hb1)
          | ((with_reducible refine (HNW.out _ HB.out).mono ?_); rintro e w2 ⟨bt, bm, rfl, ht2, hb2⟩; have HB := Lib.hid (HB.out.trans (hb2.mono HB.out.size)); have HT := Lib.hid ht2; clear hb2 ht2)
          | ((with_reducible refine (HRN.out _ HB.out).mono ?_); rintro e w3 ⟨rfl, hb3⟩; have HB := Lib.hid (HB.out.trans (hb3.mono HB.out.size)); have HT := Lib.hid (HT.out.below hb3 (Nat.le_refl _)); clear hb3)
          | ((with_reducible refine (HD.out _ _ _ HT.out).mono ?_); rintro e w4 ⟨rfl, hb4⟩; have HB := Lib.hid (HB.out.trans (hb4.mono HB.out.size)); clear hb4)
          | ((with_reducible refine (HRD.out _ HB.out).mono ?_); rintro e w5 ⟨rfl, hb5⟩; have HB := Lib.hid (HB.out.trans (hb5.mono HB.out.size)); clear hb5)
          | ((with_reducible refine (HAW.out _).mono ?_); rintro e w6 ⟨rfl, hb6⟩; have HB := Lib.hid (HB.out.trans (hb6.mono HB.out.size)); clear hb6)
          | fail)
        go_ret
        exact retB (by simp) HB.out
      · obtain ⟨k, hkk⟩ : ∃ k, k = tarCode l := ⟨_, rfl⟩
        have HNW : Hid (∀ W, Below w.heap.size w W → Calls Try.prog 11 #[v] W (Ret W (.tuple #[.pointer none, .int .i64 k]))) := Lib.hid (fun W hW => (tarNew_any l v W (HS.out.below hW (Nat.le_refl _)) (by omega) HF.out).mono fun e w' h => by rw [hkk]; exact new_bad h hk)
        have HRN : Hid (∀ W, Below w.heap.size w W → Calls Try.prog 12 #[v] W (Ret W (.int .i64 k))) := Lib.hid (fun W hW => by have := refNew_any l v W (HS.out.below hW (Nat.le_refl _)) (by omega) HF.out; rwa [← hkk] at this)
        rw [← hkk] at hk
        have tk : (k != 0) = true := by simp [hk]
        clear hs hf hw hl hkk
        go_enter Try.func3, Try.ntmps3
        go_wp2_with (first
          | ((with_reducible refine HWD.out.mono ?_); rintro e w1 ⟨rfl, hb1⟩; have HB := Lib.hid hb1; clear hb1)
          | ((with_reducible refine (HNW.out _ HB.out).mono ?_); rintro e w2 ⟨rfl, hb2⟩; have HB := Lib.hid (HB.out.trans (hb2.mono HB.out.size)); clear hb2)
          | ((with_reducible refine (HRN.out _ HB.out).mono ?_); rintro e w3 ⟨rfl, hb3⟩; have HB := Lib.hid (HB.out.trans (hb3.mono HB.out.size)); clear hb3)
          | ((with_reducible refine (HAW.out _).mono ?_); rintro e w6 ⟨rfl, hb6⟩; have HB := Lib.hid (HB.out.trans (hb6.mono HB.out.size)); clear hb6)
          | fail)
        go_ret
        exact ⟨rfl, HB.out⟩
    · clear hs hf hw hl
      go_enter Try.func3, Try.ntmps3
      go_wp2_with (first
        | ((with_reducible refine HWD.out.mono ?_); rintro e w1 ⟨rfl, hb1⟩; have HB := Lib.hid hb1; clear hb1)
        | ((with_reducible refine (HAW.out _).mono ?_); rintro e w6 ⟨rfl, hb6⟩; have HB := Lib.hid (HB.out.trans (hb6.mono HB.out.size)); clear hb6)
        | fail)
      go_ret
      exact ⟨rfl, HB.out⟩
  · rw [hw] at HWD
    clear hs hf hw
    go_enter Try.func3, Try.ntmps3
    go_wp2_with (first
      | ((with_reducible refine HWD.out.mono ?_); rintro e w1 ⟨rfl, hb1⟩; have HB := Lib.hid hb1; clear hb1)
      | ((with_reducible refine (HAW.out _).mono ?_); rintro e w6 ⟨rfl, hb6⟩; have HB := Lib.hid (HB.out.trans (hb6.mono HB.out.size)); clear hb6)
      | fail)
    go_ret
    exact ⟨rfl, HB.out⟩

theorem lifted (os : Os) (started : os.Started) (H : Type) (enc : TypeId × Value → H) :
    ReturnsInHanded {} Try.checked os 3 .any (Rows.dutyTellsSpec.pre6 enc Try.prog Try.f3 Rows.dutyTellsRow.domain false) (Rows.dutyTellsSpec.post enc Try.prog Try.f3 false true false false) := by
  refine law_lifted os started (by kernel_rfl) Try.func3
    (ChangeSpec.witness6 (enc := enc) (C := Try.checked) false ⟨#[], #[.slice none 0 0, .string ⟨#[]⟩, .int .i64 0, .string ⟨#[]⟩], []⟩ 8 (by kernel_rfl) (by kernel_rfl) (by kernel_rfl) (by kernel_rfl))
    (by kernel_rfl) rfl rfl ?_ ?_
  · intro vs ds W p hA
    rw [Try.params3] at hA
    obtain ⟨v0, vs0, d0, ds0, p0, q0, rfl, rfl, rfl, h0, r0⟩ := trodAll_cons hA
    obtain ⟨v1, vs1, d1, ds1, p1, q1, rfl, rfl, rfl, h1, r1⟩ := trodAll_cons r0
    obtain ⟨v2, vs2, d2, ds2, p2, q2, rfl, rfl, rfl, h2, r2⟩ := trodAll_cons r1
    obtain ⟨v3, vs3, d3, ds3, p3, q3, rfl, rfl, rfl, h3, r3⟩ := trodAll_cons r2
    obtain ⟨rfl, rfl, rfl⟩ := trodAll_nil r3
    rfl
  · intro W base args ds p hval hA
    rw [Try.params3] at hA hval
    obtain ⟨v0, vs0, d0, ds0, p0, q0, hargs, rfl, rfl, h0, r0⟩ := trodAll_cons hA
    obtain ⟨v1, vs1, d1, ds1, p1, q1, rfl, rfl, rfl, h1, r1⟩ := trodAll_cons r0
    obtain ⟨v2, vs2, d2, ds2, p2, q2, rfl, rfl, rfl, h2, r2⟩ := trodAll_cons r1
    obtain ⟨v3, vs3, d3, ds3, p3, q3, rfl, rfl, rfl, h3, r3⟩ := trodAll_cons r2
    obtain ⟨rfl, rfl, rfl⟩ := trodAll_nil r3
    obtain rfl : args = #[v0, v1, v2, v3] := by cases args; simp_all
    obtain ⟨l0, hs0, hf0⟩ := open_rates (hval 0 22 v0 rfl rfl) h0
    obtain ⟨a1, rfl, rfl, rfl, w1⟩ := Go.ChangeMaps.open_string Try.underlying9 (hval 1 9 v1 rfl rfl) h1
    obtain ⟨a2, rfl, rfl, rfl, w2⟩ := open_int Try.underlying2 (hval 2 2 v2 rfl rfl) h2
    obtain ⟨a3, rfl, rfl, rfl, w3⟩ := Go.ChangeMaps.open_string Try.underlying9 (hval 3 9 v3 rfl rfl) h3
    exact walk W l0 v0 hs0 hf0 a1 w1 a2 w2 a3 w3

theorem over : Rows.dutyTellsRow.holds Try.pinned (OpenSpec.ofChange Rows.dutyTellsSpec) :=
  OpenClaim.holds_of_wide 3 Try.f3 rfl rfl rfl rfl rfl rfl rfl ⟨rfl, rfl, rfl, rfl, rfl⟩ rfl rfl rfl rfl rfl (by kernel_rfl) Try.func3 (by kernel_rfl)
    (of_decide_eq_true (by kernel_rfl)) (by unfold Func.isWrapper; rw [if_neg (by decide +kernel)]; exact ⟨rfl, rfl⟩)
    (fun os started H enc _ => lifted os started H enc)

/-- The statement. -/
theorem proved : Rows.DutyTellsSaid := over
#print axioms proved
end Go.Proofs.Ytehlhfcaajhhaaa.dutyTells
