/- No way arrives earlier: of any legs that are a way none arrives ahead of the earliest one, nor, with it, by fewer legs. No condition. -/
import Derived.Test.YtbmjficiceiekaaDoorAwake16
import Derived.Test.YtbmjficiceiekaaDoorLawD16
import Derived.Test.YtbmjficiceiekaaDoorEq16
import Derived.Test.YtbmjficiceiekaaDoorRefRight16
namespace Go.Proofs.YtbmjficiceiekaaDoor.Sc
open Go Go.RowKit Go.ChangeShapes Go.WideShapes Go.ChangeAt
set_option maxRecDepth 100000
theorem legAt_raw {l : List Vm} {x : Li} {c e : Cl} (h : legAt (l.map cleanV) x = some (c, e)) : ∃ (vo lt : Nat), x.voy = (vo : Int) ∧ x.lt = (lt : Int) ∧ ∃ (hv : vo < l.length), l[vo].calls[lt]? = some e := by
  obtain ⟨h0, ⟨v, hv, h1, h2⟩, _, he⟩ := legAt_some h
  refine ⟨x.voy.toNat, x.lt.toNat, by omega, by omega, ?_⟩
  rw [arrC, hv, Option.bind_some] at he
  obtain ⟨hvl, hve⟩ := List.getElem?_eq_some_iff.1 hv
  rw [List.length_map] at hvl
  refine ⟨hvl, ?_⟩
  rw [List.getElem_map] at hve
  change x.voy.toNat < l.length at hvl
  cases hm : mayV l[x.voy.toNat].ship l[x.voy.toNat].calls with
  | true =>
    have h3 : cleanV l[x.voy.toNat] = l[x.voy.toNat] := clean_may hm
    have h4 : v = l[x.voy.toNat] := hve.symm.trans h3
    rw [← h4]
    exact he
  | false =>
    have h3 : (cleanV l[x.voy.toNat]).calls = [] := clean_not hm
    have h4 : v.calls = [] := by rw [← hve]; exact h3
    rw [h4] at he
    simp at he
end Go.Proofs.YtbmjficiceiekaaDoor.Sc
namespace Go.Proofs.YtbmjficiceiekaaDoor.portEarliest
open Go.ChangeShapes Go.WideShapes Go.ChangeAt Go.RowKit Go Sc
set_option maxRecDepth 100000

set_option maxHeartbeats 16000000 in
theorem walk (w : World) (hap : TabW w) (l : List Vm) (v : Value) (hs : VsAt w v l) (hf : ∀ x ∈ l, x.fit) (ls : List Li) (vg : Value) (hg : Sl w 3 vg (ls.map Li.row)) (fr : ByteArray) (_ : fr.size ≤ maxLen) (tp : ByteArray) (_ : tp.size ≤ maxLen) (ready : Int) (_ : (Lit.int .i64 ready).wf = true) (ch : Int) (_ : (Lit.int .i64 ch).wf = true) :
    Calls Tryd.prog 4 #[v, vg, .string fr, .string tp, .int .i64 ready, .int .i64 ch] w (RetB w true) := by
  have hll : ls.length ≤ 9223372036854775807 := by have := hg.len_le; simp only [List.length_map, maxLen] at this; omega
  have hvl9 : l.length ≤ 9223372036854775807 := by have := hs.1.len_le; simp only [List.length_map, maxLen] at this; omega
  obtain ⟨a, c, rfl⟩ : ∃ a c, v = .slice a l.length c := by simpa using hs.1.shape
  obtain ⟨ag, cg, rfl⟩ : ∃ a c, vg = .slice a ls.length c := by simpa using hg.shape
  have HS := Lib.hid hs
  have HG := Lib.hid hg
  have HAW := Lib.hid (fun W (hW : Below w.heap.size w W) => awake_any W (hap.below hW))
  have HFE := Lib.hid (fun W (hW : Below w.heap.size w W) => few_any l (.slice a l.length c) W (hs.below hW))
  have HB := Lib.hid (Below.refl w.heap.size w)
  obtain ⟨f, hff⟩ : ∃ f, fewB l = f := ⟨_, rfl⟩
  rw [hff] at HFE
  have HF : Hid (f = true → l.length ≤ 8) := Lib.hid (fun h => by
    rw [← hff] at h
    simp only [fewB, Bool.and_eq_true, decide_eq_true_eq] at h
    exact h.2)
  have HRR := Lib.hid (fun W (hW : Below w.heap.size w W) => refRight_any l (.slice a l.length c) ls (.slice ag ls.length cg) fr tp ready ch W (hs.below hW) (hg.below hW (Nat.le_refl _)) hf)
  clear hap hs hg hff hf
  by_cases hbad : f = false ∨ 8 < ls.length
  · have HG : (f = false) ∨ (f = true ∧ decide ((8 : Int) < (ls.length : Int)) = true ∧ decide (8 < ls.length) = true) := by
      cases f
      · exact .inl rfl
      · rcases hbad with h | h
        · cases h
        · exact .inr ⟨rfl, decide_eq_true (by omega), decide_eq_true h⟩
    clear hbad
    rcases HG with rfl | ⟨rfl, t1, t1'⟩
    all_goals
      go_enter Tryd.func4, Tryd.ntmps4
      go_wp2_with (first
        | ((with_reducible refine (HAW.out _ HB.out).mono ?_); rintro e wa ⟨rfl, hba⟩; have HB := Lib.hid (HB.out.trans (hba.mono HB.out.size)); clear hba)
        | ((with_reducible refine (HFE.out _ HB.out).mono ?_); rintro e wa ⟨rfl, hba⟩; have HB := Lib.hid (HB.out.trans (hba.mono HB.out.size)); clear hba)
        | fail)
      go_ret
      exact ⟨rfl, HB.out⟩
  obtain ⟨rfl, h10⟩ : f = true ∧ ¬ 8 < ls.length := by
    cases f
    · exact absurd (.inl rfl) hbad
    · exact ⟨rfl, fun h => hbad (.inr h)⟩
  have hl8 := HF.out rfl
  have HBE := Lib.hid (fun W (hW : Below w.heap.size w W) => best_any l (.slice a l.length c) fr tp ready ch W (HS.out.below hW) (by omega))
  cases hR : rightR (l.map cleanV) ls fr tp ready (heldN ch) with
  | false =>
    have t1 : decide ((8 : Int) < (ls.length : Int)) = false := decide_eq_false (by omega)
    have t1' : decide (8 < ls.length) = false := decide_eq_false h10
    rw [hR] at HRR
    cases hr : bestR l fr tp ready ch with
    | none =>
      rw [hr] at HBE
      clear hbad h10 hr hR
      go_enter Tryd.func4, Tryd.ntmps4
      go_wp2_with (first
        | ((with_reducible refine (HAW.out _ HB.out).mono ?_); rintro e wa ⟨rfl, hba⟩; have HB := Lib.hid (HB.out.trans (hba.mono HB.out.size)); clear hba)
        | ((with_reducible refine (HFE.out _ HB.out).mono ?_); rintro e wa ⟨rfl, hba⟩; have HB := Lib.hid (HB.out.trans (hba.mono HB.out.size)); clear hba)
        | ((with_reducible refine (HRR.out _ HB.out).mono ?_); rintro e wa ⟨rfl, hba⟩; have HB := Lib.hid (HB.out.trans (hba.mono HB.out.size)); clear hba)
        | ((with_reducible refine (HBE.out _ HB.out).mono ?_); rintro e wa ⟨rfl, hba⟩; have HB := Lib.hid (HB.out.trans (hba.mono HB.out.size)); clear hba)
        | fail)
      go_ret
      exact ⟨rfl, HB.out⟩
    | some q =>
      obtain ⟨d, lw⟩ := q
      rw [hr] at HBE
      clear hbad h10 hr hR
      go_enter Tryd.func4, Tryd.ntmps4
      go_wp2_with (first
        | ((with_reducible refine (HAW.out _ HB.out).mono ?_); rintro e wa ⟨rfl, hba⟩; have HB := Lib.hid (HB.out.trans (hba.mono HB.out.size)); clear hba)
        | ((with_reducible refine (HFE.out _ HB.out).mono ?_); rintro e wa ⟨rfl, hba⟩; have HB := Lib.hid (HB.out.trans (hba.mono HB.out.size)); clear hba)
        | ((with_reducible refine (HRR.out _ HB.out).mono ?_); rintro e wa ⟨rfl, hba⟩; have HB := Lib.hid (HB.out.trans (hba.mono HB.out.size)); clear hba)
        | ((with_reducible refine (HBE.out _ HB.out).mono ?_); rintro e wa ⟨vw, rfl, hba, hsw⟩; have HB := Lib.hid (HB.out.trans (hba.mono HB.out.size)); clear hba hsw)
        | fail)
      go_ret
      exact ⟨rfl, HB.out⟩
  | true =>
    have hne := (right_way hR).2.1
    obtain ⟨m, x, rfl⟩ : ∃ m x, ls = m ++ [x] := ⟨ls.dropLast, ls.getLast hne, (List.dropLast_concat_getLast hne).symm⟩
    obtain ⟨cl, e, d, lw, hleg, hr, hcmp⟩ := right_best hR rfl
    rw [hR] at HRR
    rw [hr] at HBE
    obtain ⟨vo, lt, hxv, hxt, hvl, hce⟩ := legAt_raw hleg
    obtain ⟨hlt, hee⟩ := List.getElem?_eq_some_iff.1 hce
    obtain ⟨bg, og, rfl, hbg, hpx⟩ := li_at HG.out (k := m.length) (by simp)
    rw [List.getElem_append_right (Nat.le_refl _)] at hpx
    simp only [Nat.sub_self, List.getElem_cons_zero] at hpx
    obtain ⟨xv, xf, xt⟩ := x
    simp only at hxv hxt
    subst hxv hxt
    obtain ⟨bv, ov, rfl, hbv, e0, e1, hcs⟩ := vs_at HS.out hvl
    obtain ⟨ac, cc, hcv⟩ : ∃ a c, l[vo].val = .slice a l[vo].calls.length c := by simpa using hcs.shape
    rw [hcv] at e1 hcs
    obtain ⟨bc, oc, rfl, hbc, hpe⟩ := cl_at hcs hlt
    rw [hee] at hpe
    have HQ := Lib.hid (fun W (hW : Below w.heap.size w W) => And.intro (hpx.below hbg hW) (And.intro ((hW.cell (p := ⟨bv, ov + vo * 2 + 1, none⟩) hbv).trans e1) (hpe.below hbc hW).2.2.1))
    have hcl : l[vo].calls.length ≤ 9223372036854775807 := by have := hcs.len_le; simp only [List.length_map, maxLen] at this; omega
    clear hpx hbg e0 e1 hcs hbv hpe hbc hcv hee hce hne hR hr hleg
    generalize l[vo].calls.length = n at *
    obtain ⟨ep, eu, ea, ed⟩ := e
    simp only [List.length_append, List.length_singleton] at HRR hcmp hll h10
    simp only [LiAt] at HQ
    rw [List.length_append, List.length_singleton]
    have t9 : ((m.length + 1 : Nat) : Int) = (m.length : Int) + 1 := rfl
    generalize m.length = k at *
    have t1 : decide ((8 : Int) < (k : Int) + 1) = false := decide_eq_false (by omega)
    have t1' : decide (8 < k + 1) = false := decide_eq_false h10
    have hki : (k : Int) < (k : Int) + 1 := by omega
    have hkb : (k : Int) ≤ 8 := by omega
    have hvi : (vo : Int) < (l.length : Int) := by omega
    have hti : (lt : Int) < (n : Int) := by omega
    generalize hnl : lw.length = nw at *
    have HNL := Lib.hid hnl
    have HC : (decide (d < ea) = true) ∨ (decide (d < ea) = false ∧ (d == ea) = true ∧ decide ((nw : Int) ≤ (k : Int) + 1) = true) := by
      rcases hcmp with h | ⟨h1, h2⟩
      · exact .inl (decide_eq_true h)
      · exact .inr ⟨decide_eq_false (by omega), by simp [h1], decide_eq_true (by omega)⟩
    have HNN : Hid (decide ((nw : Int) ≤ (k : Int) + 1) = true → decide (nw ≤ k + 1) = true) := Lib.hid (fun h => decide_eq_true (by have := of_decide_eq_true h; omega))
    clear hbad hcmp hvl hlt hnl h10
    rcases HC with s1 | ⟨s1, s2, s3⟩
    all_goals
      try have s4 := HNN.out s3
      go_enter Tryd.func4, Tryd.ntmps4
      go_wp2_with (first
        | ((with_reducible refine (HAW.out _ HB.out).mono ?_); rintro e wa ⟨rfl, hba⟩; have HB := Lib.hid (HB.out.trans (hba.mono HB.out.size)); clear hba)
        | ((with_reducible refine (HFE.out _ HB.out).mono ?_); rintro e wa ⟨rfl, hba⟩; have HB := Lib.hid (HB.out.trans (hba.mono HB.out.size)); clear hba)
        | ((with_reducible refine (HRR.out _ HB.out).mono ?_); rintro e wb ⟨rfl, hba⟩; have HB := Lib.hid (HB.out.trans (hba.mono HB.out.size)); obtain ⟨⟨x0, x1, x2⟩, z1, z2⟩ := HQ.out wb HB.out; clear hba)
        | ((with_reducible refine (HBE.out _ HB.out).mono ?_); rintro e wa ⟨vw, rfl, hba, hsw⟩; have HB := Lib.hid (HB.out.trans (hba.mono HB.out.size))
           obtain ⟨aw, cw, rfl⟩ : ∃ a c, vw = .slice a nw c := by
             have h := hsw.shape
             rw [List.length_map, HNL.out] at h
             exact h
           clear hba hsw)
        | fail)
      obtain ⟨w8, hw8⟩ : ∃ w8, w8 = wb.alloc (.cells #[.int .i64 (vo : Int), .int .i64 xf, .int .i64 (lt : Int)] 37) := ⟨_, rfl⟩
      have H16 : Hid (w8.heap[wb.heap.size]? = some (.cells #[.int .i64 (vo : Int), .int .i64 xf, .int .i64 (lt : Int)] 37 (0, 0))) := Lib.hid (by rw [hw8]; exact heap_alloc_new _ _)
      have HB8 : Hid (Below w.heap.size w w8) := Lib.hid (by rw [hw8]; exact HB.out.alloc HB.out.size _)
      rw [← hw8]
      clear hw8 x0 x1 x2 z1 z2
      obtain ⟨y0, y1, y2⟩ := li_box (x := ⟨(vo : Int), xf, (lt : Int)⟩) H16.out
      obtain ⟨-, z1, z2⟩ := HQ.out w8 HB8.out
      simp only at y0 y1 y2
      go_quiet (fail)
      go_wp2_with fail
      go_ret
      exact ⟨rfl, below_drewN HB8.out _⟩

theorem lifted (os : Os) (started : os.Started) (H : Type) (enc : TypeId × Value → H) :
    ReturnsInHanded {} Tryd.checked os 4 .any (fun w args => (Rows.portEarliestSpec.pre enc Tryd.prog Tryd.f4 [] false w args ∧ laidMetH Tryd.prog laidA w) ∧ sizedMet enc Tryd.prog Tryd.f4 (OpenSpec.ofChange Rows.portEarliestSpec) false w args) (Rows.portEarliestSpec.post enc Tryd.prog Tryd.f4 false true false false) := by
  refine law_liftedD os started (by kernel_rfl) Tryd.func4
    (ChangeSpec.witness_shaped (enc := enc) (C := Tryd.checked) (os := os) (X := fun w _ => laidMetH Tryd.prog laidA w) false (World.doorLaid Tryd.prog 400 os) #[.slice none 0 0, .slice none 0 0, .string ⟨#[]⟩, .string ⟨#[]⟩, .int .i64 0, .int .i64 0] 8 rfl (World.shaped_of_RefB (by kernel_rfl) (by kernel_rfl)) (by kernel_rfl) (by kernel_rfl) (by kernel_rfl) (door_met os _))
    (by kernel_rfl) rfl rfl ?_ ?_
  · intro vs ds W p hA
    rw [Tryd.params4] at hA
    obtain ⟨v0, vs0, d0, ds0, p0, q0, rfl, rfl, rfl, h0, r0⟩ := trodAll_cons hA
    obtain ⟨v1, vs1, d1, ds1, p1, q1, rfl, rfl, rfl, h1, r1⟩ := trodAll_cons r0
    obtain ⟨v2, vs2, d2, ds2, p2, q2, rfl, rfl, rfl, h2, r2⟩ := trodAll_cons r1
    obtain ⟨v3, vs3, d3, ds3, p3, q3, rfl, rfl, rfl, h3, r3⟩ := trodAll_cons r2
    obtain ⟨v4, vs4, d4, ds4, p4, q4, rfl, rfl, rfl, h4, r4⟩ := trodAll_cons r3
    obtain ⟨v5, vs5, d5, ds5, p5, q5, rfl, rfl, rfl, h5, r5⟩ := trodAll_cons r4
    obtain ⟨rfl, rfl, rfl⟩ := trodAll_nil r5
    rfl
  · intro W base args ds p hap hval hA
    rw [Tryd.params4] at hA hval
    obtain ⟨v0, vs0, d0, ds0, p0, q0, hargs, rfl, rfl, h0, r0⟩ := trodAll_cons hA
    obtain ⟨v1, vs1, d1, ds1, p1, q1, rfl, rfl, rfl, h1, r1⟩ := trodAll_cons r0
    obtain ⟨v2, vs2, d2, ds2, p2, q2, rfl, rfl, rfl, h2, r2⟩ := trodAll_cons r1
    obtain ⟨v3, vs3, d3, ds3, p3, q3, rfl, rfl, rfl, h3, r3⟩ := trodAll_cons r2
    obtain ⟨v4, vs4, d4, ds4, p4, q4, rfl, rfl, rfl, h4, r4⟩ := trodAll_cons r3
    obtain ⟨v5, vs5, d5, ds5, p5, q5, rfl, rfl, rfl, h5, r5⟩ := trodAll_cons r4
    obtain ⟨rfl, rfl, rfl⟩ := trodAll_nil r5
    obtain rfl : args = #[v0, v1, v2, v3, v4, v5] := by cases args; simp_all
    obtain ⟨l0, hs0, hf0⟩ := open_voyages (hval 0 22 v0 rfl rfl) h0
    obtain ⟨l1, hs1⟩ := open_legs (hval 1 26 v1 rfl rfl) h1
    obtain ⟨a2, rfl, rfl, rfl, w2⟩ := Go.ChangeMaps.open_string Tryd.underlying9 (hval 2 9 v2 rfl rfl) h2
    obtain ⟨a3, rfl, rfl, rfl, w3⟩ := Go.ChangeMaps.open_string Tryd.underlying9 (hval 3 9 v3 rfl rfl) h3
    obtain ⟨a4, rfl, rfl, rfl, w4⟩ := open_int Tryd.underlying3 (hval 4 3 v4 rfl rfl) h4
    obtain ⟨a5, rfl, rfl, rfl, w5⟩ := open_int Tryd.underlying3 (hval 5 3 v5 rfl rfl) h5
    exact walk W hap l0 v0 hs0 hf0 l1 v1 hs1 a2 w2 a3 w3 a4 w4 a5 w5

theorem over : Rows.portEarliestRow.holds Tryd.pinned (OpenSpec.ofChange Rows.portEarliestSpec) :=
  OpenClaim.holds_of_wide 4 Tryd.f4 rfl rfl rfl rfl rfl rfl rfl ⟨rfl, rfl, rfl, rfl, rfl⟩ rfl rfl rfl rfl rfl (by kernel_rfl) Tryd.func4 (by kernel_rfl)
    (of_decide_eq_true (by kernel_rfl)) (by unfold Func.isWrapper; rw [if_neg (by decide +kernel)]; exact ⟨rfl, rfl⟩)
    (fun os started H enc _ => lifted os started H enc)

/-- The statement. -/
theorem proved : Rows.PortEarliestCardSaid :=
  Claim7.holds_tied_plain_at .later [] [.data, .data, .data] true _ true
    over (fun _ h => by cases h) (by kernel_rfl) (fun _ h => by cases h) portEarliest_row_tie rfl ⟨rfl, rfl⟩ (by kernel_rfl) rfl
    (fun f fn hf hfn => by
      obtain rfl : f = 4 := Option.some.inj (hf.symm.trans (by kernel_rfl))
      obtain rfl : fn = Tryd.f4 := (Option.some.inj (Tryd.func4.symm.trans hfn)).symm
      exact ⟨by kernel_rfl, fun j t ht => by
        have hall : (Tryd.f4.params.toList.all fun u => !Tryd.prog.wantsStandIn u) = true := by kernel_rfl
        have hm : t ∈ Tryd.f4.params.toList := by simpa using Array.mem_of_getElem? ht
        exact (show Tryd.prog.wantsStandIn t = false by simpa using List.all_eq_true.1 hall t hm)⟩)
    (by kernel_rfl)
#print axioms proved
end Go.Proofs.YtbmjficiceiekaaDoor.portEarliest
