/- The statement DutyGrows. -/
import Derived.Test.YtehlhfcaajhhaaaAwake45
import Derived.ChangeMaps5
namespace Go.Proofs.Ytehlhfcaajhhaaa.dutyGrows
open Go.ChangeShapes Go.WideShapes Go.ChangeAt Go.RowKit Go Sc
set_option maxRecDepth 100000

theorem new_bad {w w' : World} {l : List Rt} {e : Ending} (h : NewP w l e w') (h0 : ¬ tarCode l = 0) : e = .returned (.tuple #[.pointer none, .int .i64 (tarCode l)]) ∧ Below w.heap.size w w' := by
  obtain ⟨hb, ⟨-, he⟩ | ⟨h1, -⟩⟩ := h
  · exact ⟨he, hb⟩
  · exact absurd h1 h0
theorem ceil_box (A d : Int) (hd : 1 ≤ d) : A ≤ (A + (d - 1)) / d * d ∧ (A + (d - 1)) / d * d ≤ A + (d - 1) := by
  have h1 := Int.mul_ediv_add_emod (A + (d - 1)) d
  have h2 := Int.emod_nonneg (A + (d - 1)) (show d ≠ 0 by omega)
  have h3 := Int.emod_lt_of_pos (A + (d - 1)) (show 0 < d by omega)
  rw [Int.mul_comm] at h1
  omega
theorem lt_of_mul {p q d : Int} (hd : 1 ≤ d) (h : p * d < q * d) : p < q := Int.lt_of_mul_lt_mul_right h (by omega)
/-- What parts of a value pay. -/
structure Shares (X Y Z : Int) : Prop where
  x0 : 0 ≤ X
  y0 : 0 ≤ Y
  xz : X ≤ Z
  yz : Y ≤ Z
  up : Z ≤ X + Y
  dn : X + Y ≤ Z + 1
theorem shares (a b n d : Int) (ha : 0 ≤ a) (hb : 0 ≤ b) (hn : 0 ≤ n) (hd : 1 ≤ d) : Shares (ceilq a n d) (ceilq b n d) (ceilq (a + b) n d) := by
  obtain ⟨a1, a2⟩ := ceil_box (a * n) d hd
  obtain ⟨b1, b2⟩ := ceil_box (b * n) d hd
  obtain ⟨z1, z2⟩ := ceil_box ((a + b) * n) d hd
  have hA : 0 ≤ a * n := Int.mul_nonneg ha hn
  have hB : 0 ≤ b * n := Int.mul_nonneg hb hn
  have hab : (a + b) * n = a * n + b * n := Int.add_mul _ _ _
  have X0 : 0 ≤ ceilq a n d := Int.ediv_nonneg (by omega) (by omega)
  have Y0 : 0 ≤ ceilq b n d := Int.ediv_nonneg (by omega) (by omega)
  rw [hab] at z1 z2
  unfold ceilq at *
  rw [hab]
  generalize (a * n + (d - 1)) / d = X at *
  generalize (b * n + (d - 1)) / d = Y at *
  generalize (a * n + b * n + (d - 1)) / d = Z at *
  generalize a * n = A at *
  generalize b * n = B at *
  have e1 : (Z + 1) * d = Z * d + d := by rw [Int.add_mul, Int.one_mul]
  have e2 : (X + Y + 1) * d = X * d + Y * d + d := by rw [Int.add_mul, Int.add_mul, Int.one_mul]
  have e3 : (Z + 2) * d = Z * d + 2 * d := Int.add_mul _ _ _
  have e4 : (X + Y) * d = X * d + Y * d := Int.add_mul _ _ _
  have l1 := lt_of_mul (p := X) (q := Z + 1) hd (by omega)
  have l2 := lt_of_mul (p := Y) (q := Z + 1) hd (by omega)
  have l3 := lt_of_mul (p := Z) (q := X + Y + 1) hd (by omega)
  have l4 := lt_of_mul (p := X + Y) (q := Z + 2) hd (by omega)
  exact ⟨X0, Y0, by omega, by omega, by omega, by omega⟩
theorem duty_cases (l : List Rt) (c o : ByteArray) (a b : Int) (hok : ∀ r ∈ l, r.ok = true) (ha : 0 ≤ a ∧ a ≤ 4294967295) (hb : 0 ≤ b ∧ b ≤ 4294967295) :
    (∃ e, e ≠ 0 ∧ dutyP l c o (a + b) = (0, e)) ∨ ∃ X Y Z, dutyP l c o a = (X, 0) ∧ dutyP l c o b = (Y, 0) ∧ dutyP l c o (a + b) = (Z, 0) ∧ Shares X Y Z ∧ Z ≤ 1099511627776 := by
  cases hr : rateOf l c o with
  | none => exact .inl ⟨4, by decide, dutyP_none (by omega) hr⟩
  | some r =>
    by_cases hz : ceilq (a + b) r.num r.den ≤ 1099511627776
    · have hm : r ∈ l := by
        unfold rateOf at hr
        split at hr
        · rename_i r' h'; obtain rfl := Option.some.inj hr; exact List.mem_of_find?_eq_some h'
        · exact List.mem_of_find?_eq_some hr
      have h1 := hok r hm
      simp only [Rt.ok, Bool.and_eq_true, ratOk, decide_eq_true_eq] at h1
      have hs := shares a b r.num r.den ha.1 hb.1 h1.2.2.2.1 h1.2.2.2.2
      exact .inr ⟨_, _, _, dutyP_some (by omega) hr (by have := hs.xz; omega), dutyP_some (by omega) hr (by have := hs.yz; omega), dutyP_some (by omega) hr hz, hs, hz⟩
    · exact .inl ⟨3, by decide, dutyP_big (by omega) hr hz⟩
theorem wf32 {n : Int} (h : (Lit.int .u32 n).wf = true) : 0 ≤ n ∧ n ≤ 4294967295 := by
  simp only [Lit.wf, Bool.and_eq_true, decide_eq_true_eq] at h
  have h1 : IntKind.u32.min = 0 := by decide
  have h2 : IntKind.u32.max = 4294967295 := by decide
  omega
set_option maxHeartbeats 8000000 in
theorem walk (w : World) (l : List Rt) (v : Value) (hs : Sl w 5 v (l.map Rt.row)) (hf : ∀ r ∈ l, r.fit) (c : ByteArray) (hc : c.size ≤ maxLen) (o : ByteArray) (ho : o.size ≤ maxLen) (a : Int) (ha : (Lit.int .u32 a).wf = true) (b : Int) (hb : (Lit.int .u32 b).wf = true) :
    Calls Try.prog 4 #[v, .string c, .string o, .int .u32 a, .int .u32 b] w (RetB w true) := by
  have HAW := Lib.hid (fun W => awake_any W)
  have HS := Lib.hid hs
  have HF := Lib.hid hf
  have HWD := Lib.hid (wide_any l v w hs)
  have ra := wf32 ha
  have rb := wf32 hb
  clear ha hb
  cases hw : wideR l
  · rw [hw] at HWD
    have hl : l.length ≤ 40 := by
      simp only [wideR, Bool.or_eq_false_iff, decide_eq_false_iff_not] at hw
      omega
    cases ht : decide (100 < wrap64 ((c.size : Int) + o.size))
    · by_cases hk : tarCode l = 0
      · have HNW : Hid (∀ W, Below w.heap.size w W → Calls Try.prog 11 #[v] W (NewT W l)) := Lib.hid (fun W hW => (tarNew_any l v W (HS.out.below hW (Nat.le_refl _)) (by omega) HF.out).mono fun e w' h => new_taf h hk HF.out)
        have hok := (tar_nodup l [] hk (by simp [tEnts])).2
        have e1 : wrap64 a = a := wrap_q (by omega)
        have e2 : wrap64 b = b := wrap_q (by omega)
        have e3 : wrap64 (a + b) = a + b := wrap_q (by omega)
        have hcs := duty_cases l c o a b hok ra rb
        have HD : Hid (∀ z W bt bm, Taf W bt bm l → Calls Try.prog 13 #[.pointer (some ⟨bt, 0, none⟩), .string c, .int .i64 z, .string o] W (Ret W (.tuple #[.int .i64 (dutyP l c o z).1, .int .i64 (dutyP l c o z).2]))) := Lib.hid (fun z W bt bm h => tarDuty_any l bt bm c o z W h hc ho)
        have DA := Lib.hid (fun W bt bm h => HD.out a W bt bm h)
        have DB := Lib.hid (fun W bt bm h => HD.out b W bt bm h)
        have DZ := Lib.hid (fun W bt bm h => HD.out (a + b) W bt bm h)
        clear HD
        clear hs hf hw hl hk hok
        rcases hcs with ⟨e, he, hp⟩ | ⟨X, Y, Z, hx, hy, hz, hsh, hzz⟩
        · generalize dutyP l c o a = pa at *
          generalize dutyP l c o b = pb at *
          rw [hp] at DZ
          have te : (e != 0) = true := by simp [he]
          obtain ⟨pa1, pa2⟩ := pa
          obtain ⟨pb1, pb2⟩ := pb
          simp only at DA DB DZ
          clear hp he
          go_enter Try.func4, Try.ntmps4
          go_wp2_with (first
            | ((with_reducible refine HWD.out.mono ?_); rintro e' w1 ⟨rfl, hb1⟩; have HB := Lib.hid hb1; clear hb1)
            | ((with_reducible refine (HNW.out _ HB.out).mono ?_); rintro e' w2 ⟨bt, bm, rfl, ht2, hb2⟩; have HB := Lib.hid (HB.out.trans (hb2.mono HB.out.size)); have HT := Lib.hid ht2; clear hb2 ht2)
            | ((with_reducible refine (DA.out _ _ _ HT.out).mono ?_); rintro e' w3 ⟨rfl, hb3⟩; have HB := Lib.hid (HB.out.trans (hb3.mono HB.out.size)); have HT := Lib.hid (HT.out.below hb3 (Nat.le_refl _)); clear hb3)
            | ((with_reducible refine (DB.out _ _ _ HT.out).mono ?_); rintro e' w3 ⟨rfl, hb3⟩; have HB := Lib.hid (HB.out.trans (hb3.mono HB.out.size)); have HT := Lib.hid (HT.out.below hb3 (Nat.le_refl _)); clear hb3)
            | ((with_reducible refine (DZ.out _ _ _ HT.out).mono ?_); rintro e' w3 ⟨rfl, hb3⟩; have HB := Lib.hid (HB.out.trans (hb3.mono HB.out.size)); have HT := Lib.hid (HT.out.below hb3 (Nat.le_refl _)); clear hb3)
            | ((with_reducible refine (HAW.out _).mono ?_); rintro e' w6 ⟨rfl, hb6⟩; have HB := Lib.hid (HB.out.trans (hb6.mono HB.out.size)); clear hb6)
            | fail)
          go_ret
          exact retB (by simp) HB.out
        · rw [hx] at DA
          rw [hy] at DB
          rw [hz] at DZ
          simp only at DA DB DZ
          have t1 : decide (X ≤ Z) = true := decide_eq_true hsh.xz
          have t2 : decide (Y ≤ Z) = true := decide_eq_true hsh.yz
          have t3 : decide (Z ≤ X + Y) = true := decide_eq_true hsh.up
          have t4 : decide (X + Y ≤ Z + 1) = true := decide_eq_true hsh.dn
          have x0 := hsh.x0
          have y0 := hsh.y0
          have x1 : X ≤ 1099511627776 := Int.le_trans hsh.xz hzz
          have y1 : Y ≤ 1099511627776 := Int.le_trans hsh.yz hzz
          have z0 : 0 ≤ Z := Int.le_trans x0 hsh.xz
          clear hx hy hz hsh
          go_enter Try.func4, Try.ntmps4
          go_wp2_with (first
            | ((with_reducible refine HWD.out.mono ?_); rintro e' w1 ⟨rfl, hb1⟩; have HB := Lib.hid hb1; clear hb1)
            | ((with_reducible refine (HNW.out _ HB.out).mono ?_); rintro e' w2 ⟨bt, bm, rfl, ht2, hb2⟩; have HB := Lib.hid (HB.out.trans (hb2.mono HB.out.size)); have HT := Lib.hid ht2; clear hb2 ht2)
            | ((with_reducible refine (DA.out _ _ _ HT.out).mono ?_); rintro e' w3 ⟨rfl, hb3⟩; have HB := Lib.hid (HB.out.trans (hb3.mono HB.out.size)); have HT := Lib.hid (HT.out.below hb3 (Nat.le_refl _)); clear hb3)
            | ((with_reducible refine (DB.out _ _ _ HT.out).mono ?_); rintro e' w3 ⟨rfl, hb3⟩; have HB := Lib.hid (HB.out.trans (hb3.mono HB.out.size)); have HT := Lib.hid (HT.out.below hb3 (Nat.le_refl _)); clear hb3)
            | ((with_reducible refine (DZ.out _ _ _ HT.out).mono ?_); rintro e' w3 ⟨rfl, hb3⟩; have HB := Lib.hid (HB.out.trans (hb3.mono HB.out.size)); have HT := Lib.hid (HT.out.below hb3 (Nat.le_refl _)); clear hb3)
            | ((with_reducible refine (HAW.out _).mono ?_); rintro e' w6 ⟨rfl, hb6⟩; have HB := Lib.hid (HB.out.trans (hb6.mono HB.out.size)); clear hb6)
            | fail)
          go_ret
          exact ⟨rfl, HB.out⟩
      · obtain ⟨k, hkk⟩ : ∃ k, k = tarCode l := ⟨_, rfl⟩
        have HNW : Hid (∀ W, Below w.heap.size w W → Calls Try.prog 11 #[v] W (Ret W (.tuple #[.pointer none, .int .i64 k]))) := Lib.hid (fun W hW => (tarNew_any l v W (HS.out.below hW (Nat.le_refl _)) (by omega) HF.out).mono fun e w' h => by rw [hkk]; exact new_bad h hk)
        rw [← hkk] at hk
        have tk : (k != 0) = true := by simp [hk]
        clear hs hf hw hl hkk
        go_enter Try.func4, Try.ntmps4
        go_wp2_with (first
          | ((with_reducible refine HWD.out.mono ?_); rintro e w1 ⟨rfl, hb1⟩; have HB := Lib.hid hb1; clear hb1)
          | ((with_reducible refine (HNW.out _ HB.out).mono ?_); rintro e w2 ⟨rfl, hb2⟩; have HB := Lib.hid (HB.out.trans (hb2.mono HB.out.size)); clear hb2)
          | ((with_reducible refine (HAW.out _).mono ?_); rintro e w6 ⟨rfl, hb6⟩; have HB := Lib.hid (HB.out.trans (hb6.mono HB.out.size)); clear hb6)
          | fail)
        go_ret
        exact ⟨rfl, HB.out⟩
    · clear hs hf hw hl
      go_enter Try.func4, Try.ntmps4
      go_wp2_with (first
        | ((with_reducible refine HWD.out.mono ?_); rintro e w1 ⟨rfl, hb1⟩; have HB := Lib.hid hb1; clear hb1)
        | ((with_reducible refine (HAW.out _).mono ?_); rintro e w6 ⟨rfl, hb6⟩; have HB := Lib.hid (HB.out.trans (hb6.mono HB.out.size)); clear hb6)
        | fail)
      go_ret
      exact ⟨rfl, HB.out⟩
  · rw [hw] at HWD
    clear hs hf hw
    go_enter Try.func4, Try.ntmps4
    go_wp2_with (first
      | ((with_reducible refine HWD.out.mono ?_); rintro e w1 ⟨rfl, hb1⟩; have HB := Lib.hid hb1; clear hb1)
      | ((with_reducible refine (HAW.out _).mono ?_); rintro e w6 ⟨rfl, hb6⟩; have HB := Lib.hid (HB.out.trans (hb6.mono HB.out.size)); clear hb6)
      | fail)
    go_ret
    exact ⟨rfl, HB.out⟩

theorem lifted (os : Os) (started : os.Started) (H : Type) (enc : TypeId × Value → H) :
    ReturnsInHanded {} Try.checked os 4 .any (Rows.dutyGrowsSpec.pre6 enc Try.prog Try.f4 Rows.dutyGrowsRow.domain false) (Rows.dutyGrowsSpec.post enc Try.prog Try.f4 false true false false) := by
  refine law_lifted os started (by kernel_rfl) Try.func4
    (ChangeSpec.witness6 (enc := enc) (C := Try.checked) false ⟨#[], #[.slice none 0 0, .string ⟨#[]⟩, .string ⟨#[]⟩, .int .u32 0, .int .u32 0], []⟩ 8 (by kernel_rfl) (by kernel_rfl) (by kernel_rfl) (by kernel_rfl))
    (by kernel_rfl) rfl rfl ?_ ?_
  · intro vs ds W p hA
    rw [Try.params4] at hA
    obtain ⟨v0, vs0, d0, ds0, p0, q0, rfl, rfl, rfl, h0, r0⟩ := trodAll_cons hA
    obtain ⟨v1, vs1, d1, ds1, p1, q1, rfl, rfl, rfl, h1, r1⟩ := trodAll_cons r0
    obtain ⟨v2, vs2, d2, ds2, p2, q2, rfl, rfl, rfl, h2, r2⟩ := trodAll_cons r1
    obtain ⟨v3, vs3, d3, ds3, p3, q3, rfl, rfl, rfl, h3, r3⟩ := trodAll_cons r2
    obtain ⟨v4, vs4, d4, ds4, p4, q4, rfl, rfl, rfl, h4, r4⟩ := trodAll_cons r3
    obtain ⟨rfl, rfl, rfl⟩ := trodAll_nil r4
    rfl
  · intro W base args ds p hval hA
    rw [Try.params4] at hA hval
    obtain ⟨v0, vs0, d0, ds0, p0, q0, hargs, rfl, rfl, h0, r0⟩ := trodAll_cons hA
    obtain ⟨v1, vs1, d1, ds1, p1, q1, rfl, rfl, rfl, h1, r1⟩ := trodAll_cons r0
    obtain ⟨v2, vs2, d2, ds2, p2, q2, rfl, rfl, rfl, h2, r2⟩ := trodAll_cons r1
    obtain ⟨v3, vs3, d3, ds3, p3, q3, rfl, rfl, rfl, h3, r3⟩ := trodAll_cons r2
    obtain ⟨v4, vs4, d4, ds4, p4, q4, rfl, rfl, rfl, h4, r4⟩ := trodAll_cons r3
    obtain ⟨rfl, rfl, rfl⟩ := trodAll_nil r4
    obtain rfl : args = #[v0, v1, v2, v3, v4] := by cases args; simp_all
    obtain ⟨l0, hs0, hf0⟩ := open_rates (hval 0 22 v0 rfl rfl) h0
    obtain ⟨a1, rfl, rfl, rfl, w1⟩ := Go.ChangeMaps.open_string Try.underlying9 (hval 1 9 v1 rfl rfl) h1
    obtain ⟨a2, rfl, rfl, rfl, w2⟩ := Go.ChangeMaps.open_string Try.underlying9 (hval 2 9 v2 rfl rfl) h2
    obtain ⟨a3, rfl, rfl, rfl, w3⟩ := open_int Try.underlying35 (hval 3 35 v3 rfl rfl) h3
    obtain ⟨a4, rfl, rfl, rfl, w4⟩ := open_int Try.underlying35 (hval 4 35 v4 rfl rfl) h4
    exact walk W l0 v0 hs0 hf0 a1 w1 a2 w2 a3 w3 a4 w4

theorem over : Rows.dutyGrowsRow.holds Try.pinned (OpenSpec.ofChange Rows.dutyGrowsSpec) :=
  OpenClaim.holds_of_wide 4 Try.f4 rfl rfl rfl rfl rfl rfl rfl ⟨rfl, rfl, rfl, rfl, rfl⟩ rfl rfl rfl rfl rfl (by kernel_rfl) Try.func4 (by kernel_rfl)
    (of_decide_eq_true (by kernel_rfl)) (by unfold Func.isWrapper; rw [if_neg (by decide +kernel)]; exact ⟨rfl, rfl⟩)
    (fun os started H enc _ => lifted os started H enc)

/-- The statement. -/
theorem proved : Rows.DutyGrowsSaid := over
#print axioms proved
end Go.Proofs.Ytehlhfcaajhhaaa.dutyGrows
