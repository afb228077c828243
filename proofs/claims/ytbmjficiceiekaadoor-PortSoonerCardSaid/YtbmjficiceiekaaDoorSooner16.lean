/- Who is ready earlier, or has more voyages to choose from, or needs fewer days for a change, arrives no later. No condition. -/
import Derived.Test.YtbmjficiceiekaaDoorAwake16
import Derived.Test.YtbmjficiceiekaaDoorLawD16
import Derived.Test.YtbmjficiceiekaaDoorEq16
import Derived.Test.YtbmjficiceiekaaDoorSoonPl16
import Derived.Test.YtbmjficiceiekaaDoorStrRows
namespace Go.Proofs.YtbmjficiceiekaaDoor.Sc
open Go Go.RowKit Go.ChangeShapes Go.WideShapes Go.ChangeAt
set_option maxRecDepth 100000
def BestT (W : World) (d : Int) (b : Bool) (n : Nat) (e : Ending) (w' : World) : Prop := ∃ a c, e = .returned (.tuple #[.slice a n c, .int .i64 d, .bool b]) ∧ Below W.heap.size W w'
theorem best_t (l : List Vm) (vl : Value) (fr tp : ByteArray) (ready ch : Int) (w : World) (hs : VsAt w vl l) (hl : l.length ≤ 4000) : Calls Tryd.prog 13 #[vl, .string fr, .string tp, .int .i64 ready, .int .i64 ch] w
    (BestT w (rDay (bestR l fr tp ready ch)) (bestR l fr tp ready ch).isSome (rLegs (bestR l fr tp ready ch)).length) :=
  (best_any l vl fr tp ready ch w hs hl).mono fun _ _ h => by
    obtain ⟨a, c, h1, h2, _⟩ := best_tup h
    exact ⟨a, c, h1, h2⟩
theorem sooner_pl (l : List Vm) (k : Nat) (fr tp : ByteArray) (ready ch x y : Int) (hx : 0 ≤ x) (hy : 0 ≤ y) (hch : 0 ≤ ch ∧ ch ≤ 1048576) :
    ((bestR l fr tp ready ch).isSome = true → ((bestR l fr tp (ready - x) ch).isSome = true ∧ rDay (bestR l fr tp (ready - x) ch) ≤ rDay (bestR l fr tp ready ch)) ∧
      ((bestR l fr tp ready (Any.imax 0 (ch - y))).isSome = true ∧ rDay (bestR l fr tp ready (Any.imax 0 (ch - y))) ≤ rDay (bestR l fr tp ready ch))) ∧
    ((bestR (l.take k) fr tp ready ch).isSome = true → (bestR l fr tp ready ch).isSome = true ∧ rDay (bestR l fr tp ready ch) ≤ rDay (bestR (l.take k) fr tp ready ch)) := by
  refine ⟨fun h => ⟨best_mono (fun _ _ h => h) (by omega) (Int.le_refl _) h, best_mono (fun _ _ h => h) (Int.le_refl _) ?_ h⟩, fun h => best_mono (fun i v hv => ?_) (Int.le_refl _) (Int.le_refl _) h⟩
  · rw [held_in hch, held_in (by unfold Any.imax; split <;> omega)]
    unfold Any.imax
    split <;> omega
  · rw [List.getElem?_take] at hv
    split at hv
    · exact hv
    · cases hv
end Go.Proofs.YtbmjficiceiekaaDoor.Sc
namespace Go.Proofs.YtbmjficiceiekaaDoor.portSooner
open Go.ChangeShapes Go.WideShapes Go.ChangeAt Go.RowKit Go Sc
set_option maxRecDepth 100000

set_option maxHeartbeats 16000000 in
theorem walk (w : World) (hap : TabW w) (l : List Vm) (v : Value) (hs : VsAt w v l) (_ : ∀ x ∈ l, x.fit) (n : Int) (hwn : (Lit.int .u8 n).wf = true) (fr : ByteArray) (_ : fr.size ≤ maxLen) (tp : ByteArray) (_ : tp.size ≤ maxLen) (ready : Int) (_ : (Lit.int .i64 ready).wf = true) (ch : Int) (_ : (Lit.int .i64 ch).wf = true) (x : Int) (hwx : (Lit.int .u8 x).wf = true) (y : Int) (hwy : (Lit.int .u8 y).wf = true) :
    Calls Tryd.prog 5 #[v, .int .u8 n, .string fr, .string tp, .int .i64 ready, .int .i64 ch, .int .u8 x, .int .u8 y] w (RetB w true) := by
  have hn : 0 ≤ n ∧ n ≤ 255 := (by
    have h : IntKind.u8.min ≤ n ∧ n ≤ IntKind.u8.max := by simpa [Lit.wf, IntKind.wrap] using hwn
    exact h)
  have hx : 0 ≤ x ∧ x ≤ 255 := (by
    have h : IntKind.u8.min ≤ x ∧ x ≤ IntKind.u8.max := by simpa [Lit.wf, IntKind.wrap] using hwx
    exact h)
  have hy : 0 ≤ y ∧ y ≤ 255 := (by
    have h : IntKind.u8.min ≤ y ∧ y ≤ IntKind.u8.max := by simpa [Lit.wf, IntKind.wrap] using hwy
    exact h)
  obtain ⟨a, c, rfl⟩ : ∃ a c, v = .slice a l.length c := by simpa using hs.1.shape
  have HS := Lib.hid hs
  have HAW := Lib.hid (fun W (hW : Below w.heap.size w W) => awake_any W (hap.below hW))
  have HFE := Lib.hid (fun W (hW : Below w.heap.size w W) => few_any l (.slice a l.length c) W (hs.below hW))
  have HB := Lib.hid (Below.refl w.heap.size w)
  obtain ⟨f, hf⟩ : ∃ f, fewB l = f := ⟨_, rfl⟩
  rw [hf] at HFE
  have HF : Hid (f = true → l.length ≤ 8) := Lib.hid (fun h => by
    rw [← hf] at h
    simp only [fewB, Bool.and_eq_true, decide_eq_true_eq] at h
    exact h.2)
  clear hap hs hwn hwx hwy hf
  obtain ⟨mk, hmk⟩ : ∃ m : Int, m = -1000 := ⟨_, rfl⟩
  have HG : f = false ∨ (f = true ∧ decide (ready < -1000) = true) ∨ (f = true ∧ decide (ready < -1000) = false ∧ decide (1048576 < ready) = true) ∨ (f = true ∧ decide (ready < -1000) = false ∧ decide (1048576 < ready) = false ∧ decide (ch < 0) = true) ∨
      (f = true ∧ decide (ready < -1000) = false ∧ decide (1048576 < ready) = false ∧ decide (ch < 0) = false ∧ decide (1048576 < ch) = true) ∨
      (f = true ∧ decide (ready < -1000) = false ∧ decide (1048576 < ready) = false ∧ decide (ch < 0) = false ∧ decide (1048576 < ch) = false) := by
    cases f
    · exact .inl rfl
    · simp only [decide_eq_true_eq, decide_eq_false_iff_not, true_and, false_or, Bool.true_eq_false]
      omega
  clear hmk
  rcases HG with rfl | ⟨rfl, t1⟩ | ⟨rfl, t1, t2⟩ | ⟨rfl, t1, t2, t3⟩ | ⟨rfl, t1, t2, t3, t4⟩ | ⟨rfl, t1, t2, t3, t4⟩
  iterate 5
    · go_enter Tryd.func5, Tryd.ntmps5
      go_wp2_with (first
        | ((with_reducible refine (HAW.out _ HB.out).mono ?_); rintro e wa ⟨rfl, hba⟩; have HB := Lib.hid (HB.out.trans (hba.mono HB.out.size)); clear hba)
        | ((with_reducible refine (HFE.out _ HB.out).mono ?_); rintro e wa ⟨rfl, hba⟩; have HB := Lib.hid (HB.out.trans (hba.mono HB.out.size)); clear hba)
        | fail)
      go_ret
      exact ⟨rfl, HB.out⟩
  have hl8 := HF.out rfl
  have r1 : -1000 ≤ ready := by simp at t1; omega
  have r2 : ready ≤ 1048576 := by simp at t2; omega
  have r3 : 0 ≤ ch := by simp at t3; omega
  have r4 : ch ≤ 1048576 := by simp at t4; omega
  obtain ⟨n, rfl⟩ : ∃ m : Nat, n = (m : Int) := ⟨n.toNat, by omega⟩
  obtain ⟨k, hk⟩ : ∃ k, k = n % (l.length + 1) := ⟨_, rfl⟩
  have hkl : k ≤ l.length := by have := Nat.mod_lt n (show 0 < l.length + 1 by omega); omega
  have tq : (n : Int).tmod ((l.length : Int) + 1) = (k : Int) := by rw [hk]; rfl
  obtain ⟨i0, hi, hz, hsz, hby⟩ := info_parts infoVm
  have htk := Sl.take (m := k) HS.out.1 (by simpa using hkl)
  have QT : Hid (∀ w, (Instr.slice 22 (.slice a l.length c) none (some (.int .i64 (k : Int))) none).run Tryd.prog w = .ok (.slice a k c) w) := Lib.hid fun w => Any.run_slice_to Tryd.underlying22 hi a _ c k htk.1
  have HTK : Hid (VsAt w (.slice a k c) (l.take k)) := Lib.hid ⟨by rw [List.map_take]; exact htk.2, fun x hx => HS.out.2 x (List.mem_of_mem_take hx)⟩
  have HPL := Lib.hid (sooner_pl l k fr tp ready ch x y hx.1 hy.1 ⟨r3, r4⟩)
  obtain ⟨cm, hcm⟩ : ∃ cm, Any.imax 0 (ch - y) = cm := ⟨_, rfl⟩
  have HCM := Lib.hid hcm
  rw [hcm] at HPL
  have HB0 := Lib.hid (fun W (hW : Below w.heap.size w W) => best_t l (.slice a l.length c) fr tp ready ch W (HS.out.below hW) (by omega))
  have HB1 := Lib.hid (fun W (hW : Below w.heap.size w W) => best_t l (.slice a l.length c) fr tp (ready - x) ch W (HS.out.below hW) (by omega))
  have HB2 := Lib.hid (fun W (hW : Below w.heap.size w W) => best_t l (.slice a l.length c) fr tp ready cm W (HS.out.below hW) (by omega))
  have HB3 := Lib.hid (fun W (hW : Below w.heap.size w W) => best_t (l.take k) (.slice a k c) fr tp ready ch W (HTK.out.below hW) (by rw [List.length_take]; omega))
  clear hi hz hsz hby htk hcm hk
  generalize bestR l fr tp ready ch = q0 at *
  generalize bestR l fr tp (ready - x) ch = q1 at *
  generalize bestR l fr tp ready cm = q2 at *
  generalize bestR (l.take k) fr tp ready ch = q3 at *
  generalize (rLegs q0).length = n0 at *
  generalize (rLegs q1).length = n1 at *
  generalize (rLegs q2).length = n2 at *
  generalize (rLegs q3).length = n3 at *
  generalize q0.isSome = b0 at *
  generalize q1.isSome = b1 at *
  generalize q2.isSome = b2 at *
  generalize q3.isSome = b3 at *
  generalize rDay q0 = d0 at *
  generalize rDay q1 = d1 at *
  generalize rDay q2 = d2 at *
  generalize rDay q3 = d3 at *
  have HC : (b0 = false ∧ b3 = false) ∨ (b0 = true ∧ b1 = true ∧ b2 = true ∧ decide (d0 < d1) = false ∧ decide (d0 < d2) = false ∧ b3 = false) ∨ (b0 = true ∧ b1 = true ∧ b2 = true ∧ decide (d0 < d1) = false ∧ decide (d0 < d2) = false ∧ b3 = true ∧ decide (d0 ≤ d3) = true) := by
    obtain ⟨h1, h2⟩ := HPL.out
    cases b0 with
    | false =>
      cases b3 with
      | false => exact .inl ⟨rfl, rfl⟩
      | true => exact absurd (h2 rfl).1 (by simp)
    | true =>
      obtain ⟨⟨e1, e2⟩, e3, e4⟩ := h1 rfl
      cases b3 with
      | false => exact .inr (.inl ⟨rfl, e1, e3, decide_eq_false (by omega), decide_eq_false (by omega), rfl⟩)
      | true => exact .inr (.inr ⟨rfl, e1, e3, decide_eq_false (by omega), decide_eq_false (by omega), rfl, decide_eq_true (h2 rfl).2⟩)
  clear HPL HS HTK HF
  obtain ⟨hx0, hx1⟩ := hx
  obtain ⟨hy0, hy1⟩ := hy
  obtain ⟨hn0, hn1⟩ := hn
  have qt := QT.out
  rcases HC with ⟨rfl, rfl⟩ | ⟨rfl, rfl, rfl, s1, s2, rfl⟩ | ⟨rfl, rfl, rfl, s1, s2, rfl, s3⟩
  all_goals
    go_enter Tryd.func5, Tryd.ntmps5
    go_wp2_with (first
      | ((with_reducible refine (HAW.out _ HB.out).mono ?_); rintro e wa ⟨rfl, hba⟩; have HB := Lib.hid (HB.out.trans (hba.mono HB.out.size)); clear hba)
      | ((with_reducible refine (HFE.out _ HB.out).mono ?_); rintro e wa ⟨rfl, hba⟩; have HB := Lib.hid (HB.out.trans (hba.mono HB.out.size)); clear hba)
      | ((with_reducible refine (HB0.out _ HB.out).mono ?_); rintro e wa ⟨a0, c0, rfl, hba⟩; have HB := Lib.hid (HB.out.trans (hba.mono HB.out.size)); clear hba)
      | ((with_reducible refine (HB1.out _ HB.out).mono ?_); rintro e wa ⟨a1, c1, rfl, hba⟩; have HB := Lib.hid (HB.out.trans (hba.mono HB.out.size)); clear hba)
      | ((with_reducible refine (HB2.out _ HB.out).mono ?_); rintro e wa ⟨a2, c2, rfl, hba⟩; have HB := Lib.hid (HB.out.trans (hba.mono HB.out.size)); clear hba)
      | ((with_reducible refine (HB3.out _ HB.out).mono ?_); rintro e wa ⟨a3, c3, rfl, hba⟩; have HB := Lib.hid (HB.out.trans (hba.mono HB.out.size)); clear hba)
      | ((with_reducible refine Any.wpl_max_is (k := .i64) ?_ HCM.out ?_ ?_ ?_); rfl; rfl; rfl)
      | fail)
    go_ret
    exact ⟨rfl, HB.out⟩

theorem lifted (os : Os) (started : os.Started) (H : Type) (enc : TypeId × Value → H) :
    ReturnsInHanded {} Tryd.checked os 5 .any (fun w args => (Rows.portSoonerSpec.pre enc Tryd.prog Tryd.f5 [] false w args ∧ laidMetH Tryd.prog laidA w) ∧ sizedMet enc Tryd.prog Tryd.f5 (OpenSpec.ofChange Rows.portSoonerSpec) false w args) (Rows.portSoonerSpec.post enc Tryd.prog Tryd.f5 false true false false) := by
  refine law_liftedD os started (by kernel_rfl) Tryd.func5
    (ChangeSpec.witness_shaped (enc := enc) (C := Tryd.checked) (os := os) (X := fun w _ => laidMetH Tryd.prog laidA w) false (World.doorLaid Tryd.prog 400 os) #[.slice none 0 0, .int .u8 0, .string ⟨#[]⟩, .string ⟨#[]⟩, .int .i64 0, .int .i64 0, .int .u8 0, .int .u8 0] 8 rfl (World.shaped_of_RefB (by kernel_rfl) (by kernel_rfl)) (by kernel_rfl) (by kernel_rfl) (by kernel_rfl) (door_met os _))
    (by kernel_rfl) rfl rfl ?_ ?_
  · intro vs ds W p hA
    rw [Tryd.params5] at hA
    obtain ⟨v0, vs0, d0, ds0, p0, q0, rfl, rfl, rfl, h0, r0⟩ := trodAll_cons hA
    obtain ⟨v1, vs1, d1, ds1, p1, q1, rfl, rfl, rfl, h1, r1⟩ := trodAll_cons r0
    obtain ⟨v2, vs2, d2, ds2, p2, q2, rfl, rfl, rfl, h2, r2⟩ := trodAll_cons r1
    obtain ⟨v3, vs3, d3, ds3, p3, q3, rfl, rfl, rfl, h3, r3⟩ := trodAll_cons r2
    obtain ⟨v4, vs4, d4, ds4, p4, q4, rfl, rfl, rfl, h4, r4⟩ := trodAll_cons r3
    obtain ⟨v5, vs5, d5, ds5, p5, q5, rfl, rfl, rfl, h5, r5⟩ := trodAll_cons r4
    obtain ⟨v6, vs6, d6, ds6, p6, q6, rfl, rfl, rfl, h6, r6⟩ := trodAll_cons r5
    obtain ⟨v7, vs7, d7, ds7, p7, q7, rfl, rfl, rfl, h7, r7⟩ := trodAll_cons r6
    obtain ⟨rfl, rfl, rfl⟩ := trodAll_nil r7
    rfl
  · intro W base args ds p hap hval hA
    rw [Tryd.params5] at hA hval
    obtain ⟨v0, vs0, d0, ds0, p0, q0, hargs, rfl, rfl, h0, r0⟩ := trodAll_cons hA
    obtain ⟨v1, vs1, d1, ds1, p1, q1, rfl, rfl, rfl, h1, r1⟩ := trodAll_cons r0
    obtain ⟨v2, vs2, d2, ds2, p2, q2, rfl, rfl, rfl, h2, r2⟩ := trodAll_cons r1
    obtain ⟨v3, vs3, d3, ds3, p3, q3, rfl, rfl, rfl, h3, r3⟩ := trodAll_cons r2
    obtain ⟨v4, vs4, d4, ds4, p4, q4, rfl, rfl, rfl, h4, r4⟩ := trodAll_cons r3
    obtain ⟨v5, vs5, d5, ds5, p5, q5, rfl, rfl, rfl, h5, r5⟩ := trodAll_cons r4
    obtain ⟨v6, vs6, d6, ds6, p6, q6, rfl, rfl, rfl, h6, r6⟩ := trodAll_cons r5
    obtain ⟨v7, vs7, d7, ds7, p7, q7, rfl, rfl, rfl, h7, r7⟩ := trodAll_cons r6
    obtain ⟨rfl, rfl, rfl⟩ := trodAll_nil r7
    obtain rfl : args = #[v0, v1, v2, v3, v4, v5, v6, v7] := by cases args; simp_all
    obtain ⟨l0, hs0, hf0⟩ := open_voyages (hval 0 22 v0 rfl rfl) h0
    obtain ⟨a1, rfl, rfl, rfl, w1⟩ := open_int Tryd.underlying5 (hval 1 5 v1 rfl rfl) h1
    obtain ⟨a2, rfl, rfl, rfl, w2⟩ := Go.ChangeMaps.open_string Tryd.underlying9 (hval 2 9 v2 rfl rfl) h2
    obtain ⟨a3, rfl, rfl, rfl, w3⟩ := Go.ChangeMaps.open_string Tryd.underlying9 (hval 3 9 v3 rfl rfl) h3
    obtain ⟨a4, rfl, rfl, rfl, w4⟩ := open_int Tryd.underlying3 (hval 4 3 v4 rfl rfl) h4
    obtain ⟨a5, rfl, rfl, rfl, w5⟩ := open_int Tryd.underlying3 (hval 5 3 v5 rfl rfl) h5
    obtain ⟨a6, rfl, rfl, rfl, w6⟩ := open_int Tryd.underlying5 (hval 6 5 v6 rfl rfl) h6
    obtain ⟨a7, rfl, rfl, rfl, w7⟩ := open_int Tryd.underlying5 (hval 7 5 v7 rfl rfl) h7
    exact walk W hap l0 v0 hs0 hf0 a1 w1 a2 w2 a3 w3 a4 w4 a5 w5 a6 w6 a7 w7

theorem over : Rows.portSoonerRow.holds Tryd.pinned (OpenSpec.ofChange Rows.portSoonerSpec) :=
  OpenClaim.holds_of_wide 5 Tryd.f5 rfl rfl rfl rfl rfl rfl rfl ⟨rfl, rfl, rfl, rfl, rfl⟩ rfl rfl rfl rfl rfl (by kernel_rfl) Tryd.func5 (by kernel_rfl)
    (of_decide_eq_true (by kernel_rfl)) (by unfold Func.isWrapper; rw [if_neg (by decide +kernel)]; exact ⟨rfl, rfl⟩)
    (fun os started H enc _ => lifted os started H enc)

/-- The statement. -/
theorem proved : Rows.PortSoonerCardSaid :=
  Claim7.holds_tied_plain_at .later [] [.data, .data, .data] true _ true
    over (fun _ h => by cases h) (by kernel_rfl) (fun _ h => by cases h) portSooner_row_tie rfl ⟨rfl, rfl⟩ (by kernel_rfl) rfl
    (fun f fn hf hfn => by
      obtain rfl : f = 5 := Option.some.inj (hf.symm.trans (by kernel_rfl))
      obtain rfl : fn = Tryd.f5 := (Option.some.inj (Tryd.func5.symm.trans hfn)).symm
      exact ⟨by kernel_rfl, fun j t ht => by
        have hall : (Tryd.f5.params.toList.all fun u => !Tryd.prog.wantsStandIn u) = true := by kernel_rfl
        have hm : t ∈ Tryd.f5.params.toList := by simpa using Array.mem_of_getElem? ht
        exact (show Tryd.prog.wantsStandIn t = false by simpa using List.all_eq_true.1 hall t hm)⟩)
    (by kernel_rfl)
#print axioms proved
end Go.Proofs.YtbmjficiceiekaaDoor.portSooner
