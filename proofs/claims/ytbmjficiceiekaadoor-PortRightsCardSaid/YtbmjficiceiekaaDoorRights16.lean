/- Whether any legs are a way is as the document says; the way that is told is one. No condition. -/
import Derived.Test.YtbmjficiceiekaaDoorAwake16
import Derived.Test.YtbmjficiceiekaaDoorLawD16
import Derived.Test.YtbmjficiceiekaaDoorEq16
import Derived.Test.YtbmjficiceiekaaDoorRefRight16
namespace Go.Proofs.YtbmjficiceiekaaDoor.portRights
open Go.ChangeShapes Go.WideShapes Go.ChangeAt Go.RowKit Go Sc
set_option maxRecDepth 100000

set_option maxHeartbeats 16000000 in
theorem walk (w : World) (hap : TabW w) (l : List Vm) (v : Value) (hs : VsAt w v l) (hf : ∀ x ∈ l, x.fit) (ls : List Li) (vg : Value) (hg : Sl w 3 vg (ls.map Li.row)) (fr : ByteArray) (_ : fr.size ≤ maxLen) (tp : ByteArray) (_ : tp.size ≤ maxLen) (ready : Int) (_ : (Lit.int .i64 ready).wf = true) (ch : Int) (_ : (Lit.int .i64 ch).wf = true) :
    Calls Tryd.prog 9 #[v, vg, .string fr, .string tp, .int .i64 ready, .int .i64 ch] w (RetB w true) := by
  have hll : ls.length ≤ 9223372036854775807 := by have := hg.len_le; simp only [List.length_map, maxLen] at this; omega
  obtain ⟨a, c, rfl⟩ : ∃ a c, v = .slice a l.length c := by simpa using hs.1.shape
  obtain ⟨ag, cg, rfl⟩ : ∃ a c, vg = .slice a ls.length c := by simpa using hg.shape
  have HS := Lib.hid hs
  have HG := Lib.hid hg
  have HAW := Lib.hid (fun W (hW : Below w.heap.size w W) => awake_any W (hap.below hW))
  have HFE := Lib.hid (fun W (hW : Below w.heap.size w W) => few_any l (.slice a l.length c) W (hs.below hW))
  have HB := Lib.hid (Below.refl w.heap.size w)
  obtain ⟨f, hff⟩ : ∃ f, fewB l = f := ⟨_, rfl⟩
  rw [hff] at HFE
  have HF : Hid (f = true → l.length ≤ 8) := Lib.hid (fun h => by
    rw [← hff] at h
    simp only [fewB, Bool.and_eq_true, decide_eq_true_eq] at h
    exact h.2)
  have HRR := Lib.hid (fun W (hW : Below w.heap.size w W) => refRight_any l (.slice a l.length c) ls (.slice ag ls.length cg) fr tp ready ch W (hs.below hW) (hg.below hW (Nat.le_refl _)) hf)
  clear hap hs hg hff hf
  by_cases hbad : f = false ∨ 10 < ls.length
  · have HG : (f = false) ∨ (f = true ∧ decide ((10 : Int) < (ls.length : Int)) = true ∧ decide (10 < ls.length) = true) := by
      cases f
      · exact .inl rfl
      · rcases hbad with h | h
        · cases h
        · exact .inr ⟨rfl, decide_eq_true (by omega), decide_eq_true h⟩
    clear hbad
    rcases HG with rfl | ⟨rfl, t1, t1'⟩
    all_goals
      go_enter Tryd.func9, Tryd.ntmps9
      go_wp2_with (first
        | ((with_reducible refine (HAW.out _ HB.out).mono ?_); rintro e wa ⟨rfl, hba⟩; have HB := Lib.hid (HB.out.trans (hba.mono HB.out.size)); clear hba)
        | ((with_reducible refine (HFE.out _ HB.out).mono ?_); rintro e wa ⟨rfl, hba⟩; have HB := Lib.hid (HB.out.trans (hba.mono HB.out.size)); clear hba)
        | fail)
      go_ret
      exact ⟨rfl, HB.out⟩
  obtain ⟨rfl, h10⟩ : f = true ∧ ¬ 10 < ls.length := by
    cases f
    · exact absurd (.inl rfl) hbad
    · exact ⟨rfl, fun h => hbad (.inr h)⟩
  have t1 : decide ((10 : Int) < (ls.length : Int)) = false := decide_eq_false (by omega)
  have t1' : decide (10 < ls.length) = false := decide_eq_false h10
  have hl8 := HF.out rfl
  have HPR := Lib.hid (fun W (hW : Below w.heap.size w W) => right_any l (.slice a l.length c) ls (.slice ag ls.length cg) fr tp ready ch W (HS.out.below hW) (HG.out.below hW (Nat.le_refl _)) (by omega))
  have HBE := Lib.hid (fun W (hW : Below w.heap.size w W) => best_any l (.slice a l.length c) fr tp ready ch W (HS.out.below hW) (by omega))
  generalize rightR (l.map cleanV) ls fr tp ready (heldN ch) = R at *
  have t2 : (R != R) = false := by simp
  cases hr : bestR l fr tp ready ch with
  | none =>
    rw [hr] at HBE
    clear hbad h10 hr
    go_enter Tryd.func9, Tryd.ntmps9
    go_wp2_with (first
      | ((with_reducible refine (HAW.out _ HB.out).mono ?_); rintro e wa ⟨rfl, hba⟩; have HB := Lib.hid (HB.out.trans (hba.mono HB.out.size)); clear hba)
      | ((with_reducible refine (HFE.out _ HB.out).mono ?_); rintro e wa ⟨rfl, hba⟩; have HB := Lib.hid (HB.out.trans (hba.mono HB.out.size)); clear hba)
      | ((with_reducible refine (HPR.out _ HB.out).mono ?_); rintro e wa ⟨rfl, hba⟩; have HB := Lib.hid (HB.out.trans (hba.mono HB.out.size)); clear hba)
      | ((with_reducible refine (HRR.out _ HB.out).mono ?_); rintro e wa ⟨rfl, hba⟩; have HB := Lib.hid (HB.out.trans (hba.mono HB.out.size)); clear hba)
      | ((with_reducible refine (HBE.out _ HB.out).mono ?_); rintro e wa ⟨rfl, hba⟩; have HB := Lib.hid (HB.out.trans (hba.mono HB.out.size)); clear hba)
      | fail)
    go_ret
    exact ⟨rfl, HB.out⟩
  | some q =>
    obtain ⟨d, lw⟩ := q
    rw [hr] at HBE
    have HRT := Lib.hid (best_right hr)
    clear hbad h10 hr
    go_enter Tryd.func9, Tryd.ntmps9
    go_wp2_with (first
      | ((with_reducible refine (HAW.out _ HB.out).mono ?_); rintro e wa ⟨rfl, hba⟩; have HB := Lib.hid (HB.out.trans (hba.mono HB.out.size)); clear hba)
      | ((with_reducible refine (HFE.out _ HB.out).mono ?_); rintro e wa ⟨rfl, hba⟩; have HB := Lib.hid (HB.out.trans (hba.mono HB.out.size)); clear hba)
      | ((with_reducible refine (HPR.out _ HB.out).mono ?_); rintro e wa ⟨rfl, hba⟩; have HB := Lib.hid (HB.out.trans (hba.mono HB.out.size)); clear hba)
      | ((with_reducible refine (HRR.out _ HB.out).mono ?_); rintro e wa ⟨rfl, hba⟩; have HB := Lib.hid (HB.out.trans (hba.mono HB.out.size)); clear hba)
      | ((with_reducible refine (HBE.out _ HB.out).mono ?_); rintro e wa ⟨vw, rfl, hba, hsw⟩; have HB := Lib.hid (HB.out.trans (hba.mono HB.out.size))
         obtain ⟨aw, cw, rfl⟩ : ∃ a c, vw = .slice a lw.length c := by simpa using hsw.shape
         rw [lgli_rows] at hsw
         have HP2 := Lib.hid (right_any l (.slice a l.length c) (lw.map Lg.li) (.slice aw lw.length cw) fr tp ready ch wa (HS.out.below HB.out) hsw (by omega))
         rw [HRT.out] at HP2; clear hba hsw)
      | ((with_reducible refine (HP2.out).mono ?_); rintro e wb ⟨rfl, hba⟩; have HB := Lib.hid (HB.out.trans (hba.mono HB.out.size)); clear hba)
      | fail)
    go_ret
    exact ⟨rfl, HB.out⟩

theorem lifted (os : Os) (started : os.Started) (H : Type) (enc : TypeId × Value → H) :
    ReturnsInHanded {} Tryd.checked os 9 .any (fun w args => (Rows.portRightsSpec.pre enc Tryd.prog Tryd.f9 [] false w args ∧ laidMetH Tryd.prog laidA w) ∧ sizedMet enc Tryd.prog Tryd.f9 (OpenSpec.ofChange Rows.portRightsSpec) false w args) (Rows.portRightsSpec.post enc Tryd.prog Tryd.f9 false true false false) := by
  refine law_liftedD os started (by kernel_rfl) Tryd.func9
    (ChangeSpec.witness_shaped (enc := enc) (C := Tryd.checked) (os := os) (X := fun w _ => laidMetH Tryd.prog laidA w) false (World.doorLaid Tryd.prog 400 os) #[.slice none 0 0, .slice none 0 0, .string ⟨#[]⟩, .string ⟨#[]⟩, .int .i64 0, .int .i64 0] 8 rfl (World.shaped_of_RefB (by kernel_rfl) (by kernel_rfl)) (by kernel_rfl) (by kernel_rfl) (by kernel_rfl) (door_met os _))
    (by kernel_rfl) rfl rfl ?_ ?_
  · intro vs ds W p hA
    rw [Tryd.params9] at hA
    obtain ⟨v0, vs0, d0, ds0, p0, q0, rfl, rfl, rfl, h0, r0⟩ := trodAll_cons hA
    obtain ⟨v1, vs1, d1, ds1, p1, q1, rfl, rfl, rfl, h1, r1⟩ := trodAll_cons r0
    obtain ⟨v2, vs2, d2, ds2, p2, q2, rfl, rfl, rfl, h2, r2⟩ := trodAll_cons r1
    obtain ⟨v3, vs3, d3, ds3, p3, q3, rfl, rfl, rfl, h3, r3⟩ := trodAll_cons r2
    obtain ⟨v4, vs4, d4, ds4, p4, q4, rfl, rfl, rfl, h4, r4⟩ := trodAll_cons r3
    obtain ⟨v5, vs5, d5, ds5, p5, q5, rfl, rfl, rfl, h5, r5⟩ := trodAll_cons r4
    obtain ⟨rfl, rfl, rfl⟩ := trodAll_nil r5
    rfl
  · intro W base args ds p hap hval hA
    rw [Tryd.params9] at hA hval
    obtain ⟨v0, vs0, d0, ds0, p0, q0, hargs, rfl, rfl, h0, r0⟩ := trodAll_cons hA
    obtain ⟨v1, vs1, d1, ds1, p1, q1, rfl, rfl, rfl, h1, r1⟩ := trodAll_cons r0
    obtain ⟨v2, vs2, d2, ds2, p2, q2, rfl, rfl, rfl, h2, r2⟩ := trodAll_cons r1
    obtain ⟨v3, vs3, d3, ds3, p3, q3, rfl, rfl, rfl, h3, r3⟩ := trodAll_cons r2
    obtain ⟨v4, vs4, d4, ds4, p4, q4, rfl, rfl, rfl, h4, r4⟩ := trodAll_cons r3
    obtain ⟨v5, vs5, d5, ds5, p5, q5, rfl, rfl, rfl, h5, r5⟩ := trodAll_cons r4
    obtain ⟨rfl, rfl, rfl⟩ := trodAll_nil r5
    obtain rfl : args = #[v0, v1, v2, v3, v4, v5] := by cases args; simp_all
    obtain ⟨l0, hs0, hf0⟩ := open_voyages (hval 0 22 v0 rfl rfl) h0
    obtain ⟨l1, hs1⟩ := open_legs (hval 1 26 v1 rfl rfl) h1
    obtain ⟨a2, rfl, rfl, rfl, w2⟩ := Go.ChangeMaps.open_string Tryd.underlying9 (hval 2 9 v2 rfl rfl) h2
    obtain ⟨a3, rfl, rfl, rfl, w3⟩ := Go.ChangeMaps.open_string Tryd.underlying9 (hval 3 9 v3 rfl rfl) h3
    obtain ⟨a4, rfl, rfl, rfl, w4⟩ := open_int Tryd.underlying3 (hval 4 3 v4 rfl rfl) h4
    obtain ⟨a5, rfl, rfl, rfl, w5⟩ := open_int Tryd.underlying3 (hval 5 3 v5 rfl rfl) h5
    exact walk W hap l0 v0 hs0 hf0 l1 v1 hs1 a2 w2 a3 w3 a4 w4 a5 w5

theorem over : Rows.portRightsRow.holds Tryd.pinned (OpenSpec.ofChange Rows.portRightsSpec) :=
  OpenClaim.holds_of_wide 9 Tryd.f9 rfl rfl rfl rfl rfl rfl rfl ⟨rfl, rfl, rfl, rfl, rfl⟩ rfl rfl rfl rfl rfl (by kernel_rfl) Tryd.func9 (by kernel_rfl)
    (of_decide_eq_true (by kernel_rfl)) (by unfold Func.isWrapper; rw [if_neg (by decide +kernel)]; exact ⟨rfl, rfl⟩)
    (fun os started H enc _ => lifted os started H enc)

/-- The statement. -/
theorem proved : Rows.PortRightsCardSaid :=
  Claim7.holds_tied_plain_at .later [] [.data, .data, .data] true _ true
    over (fun _ h => by cases h) (by kernel_rfl) (fun _ h => by cases h) portRights_row_tie rfl ⟨rfl, rfl⟩ (by kernel_rfl) rfl
    (fun f fn hf hfn => by
      obtain rfl : f = 9 := Option.some.inj (hf.symm.trans (by kernel_rfl))
      obtain rfl : fn = Tryd.f9 := (Option.some.inj (Tryd.func9.symm.trans hfn)).symm
      exact ⟨by kernel_rfl, fun j t ht => by
        have hall : (Tryd.f9.params.toList.all fun u => !Tryd.prog.wantsStandIn u) = true := by kernel_rfl
        have hm : t ∈ Tryd.f9.params.toList := by simpa using Array.mem_of_getElem? ht
        exact (show Tryd.prog.wantsStandIn t = false by simpa using List.all_eq_true.1 hall t hm)⟩)
    (by kernel_rfl)
#print axioms proved
end Go.Proofs.YtbmjficiceiekaaDoor.portRights
