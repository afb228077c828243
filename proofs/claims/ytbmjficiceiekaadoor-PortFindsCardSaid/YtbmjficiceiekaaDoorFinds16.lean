/- Over any voyages the earliest way, and when it arrives, are the document's, or there is none; the voyages stay as they were. No condition. -/
import Derived.Test.YtbmjficiceiekaaDoorAwake16
import Derived.Test.YtbmjficiceiekaaDoorLawD16
import Derived.Test.YtbmjficiceiekaaDoorEq16
import Derived.Test.YtbmjficiceiekaaDoorSoonPl16
import Derived.Test.YtbmjficiceiekaaDoorRefBest16
namespace Go.Proofs.YtbmjficiceiekaaDoor.Sc
open Go Go.RowKit Go.ChangeShapes Go.WideShapes Go.ChangeAt
set_option maxRecDepth 100000
/-- The earliest way asks of voyages but their ships and calls. -/
theorem restV_calls (R : Rf) (fr : ByteArray) (ch : Int) : ∀ (V V' : List Vm) (i : Nat), V.map Vm.calls = V'.map Vm.calls → restV R fr ch V i = restV R fr ch V' i
  | [], [], _, _ => rfl
  | [], _ :: _, _, h => by cases h
  | _ :: _, [], _, h => by cases h
  | v :: r, v' :: r', i, h => by
    simp only [List.map_cons, List.cons.injEq] at h
    rw [restV, restV, h.1, restV_calls R fr ch r r' (i + 1) h.2]
theorem get_calls {V V' : List Vm} (h : V.map Vm.calls = V'.map Vm.calls) (i : Nat) : (V[i]?).map Vm.calls = (V'[i]?).map Vm.calls := by
  rw [← List.getElem?_map, ← List.getElem?_map, h]
theorem arrC_calls {V V' : List Vm} (h : V.map Vm.calls = V'.map Vm.calls) (x : Lg) : arrC V x = arrC V' x := by
  have h1 := get_calls h x.voy
  unfold arrC
  cases hv : V[x.voy]? <;> cases hv' : V'[x.voy]? <;> rw [hv, hv'] at h1 <;> simp_all
theorem frC_calls {V V' : List Vm} (h : V.map Vm.calls = V'.map Vm.calls) (x : Lg) : frC V x = frC V' x := by
  have h1 := get_calls h x.voy
  unfold frC
  cases hv : V[x.voy]? <;> cases hv' : V'[x.voy]? <;> rw [hv, hv'] at h1 <;> simp_all
theorem rounds_calls {V V' : List Vm} (h : V.map Vm.calls = V'.map Vm.calls) (fr : ByteArray) (ch ready : Int) : ∀ n, roundsR V fr ch ready n = roundsR V' fr ch ready n
  | 0 => rfl
  | n + 1 => by
    have hs : ∀ R, stepO V R fr = stepO V' R fr := fun R => by
      funext O x
      unfold stepO reachL
      rw [arrC_calls h x, frC_calls h x]
    show nextR V fr ch (roundsR V fr ch ready n) = nextR V' fr ch (roundsR V' fr ch ready n)
    rw [rounds_calls h fr ch ready n, nextR_fold, nextR_fold, restV_calls _ fr ch V V' 0 h, hs]
theorem clean_calls : ∀ {l m : List Vm}, l.map Vm.strip = m.map Vm.strip → (l.map cleanV).map Vm.calls = (m.map cleanV).map Vm.calls
  | [], [], _ => rfl
  | [], _ :: _, h => by cases h
  | _ :: _, [], h => by cases h
  | v :: r, v' :: r', h => by
    simp only [List.map_cons, List.cons.injEq] at h ⊢
    refine ⟨?_, clean_calls h.2⟩
    obtain ⟨h1, h2⟩ := Prod.mk.inj h.1
    unfold cleanV
    rw [h1, h2]
    split
    · exact h2
    · rfl
theorem best_strip {l m : List Vm} (h : l.map Vm.strip = m.map Vm.strip) (fr tp : ByteArray) (ready ch : Int) : bestR l fr tp ready ch = bestR m fr tp ready ch := by
  unfold bestR
  rw [rounds_calls (clean_calls h)]
end Go.Proofs.YtbmjficiceiekaaDoor.Sc
namespace Go.Proofs.YtbmjficiceiekaaDoor.portFinds
open Go.ChangeShapes Go.WideShapes Go.ChangeAt Go.RowKit Go Sc
set_option maxRecDepth 100000

set_option maxHeartbeats 16000000 in
theorem walk (w : World) (hap : TabW w) (l : List Vm) (v : Value) (hs : VsAt w v l) (hf : ∀ x ∈ l, x.fit) (fr : ByteArray) (_ : fr.size ≤ maxLen) (tp : ByteArray) (_ : tp.size ≤ maxLen) (ready : Int) (_ : (Lit.int .i64 ready).wf = true) (ch : Int) (_ : (Lit.int .i64 ch).wf = true) :
    Calls Tryd.prog 3 #[v, .string fr, .string tp, .int .i64 ready, .int .i64 ch] w (RetB w true) := by
  have hvl9 : l.length ≤ 9223372036854775807 := by have := hs.1.len_le; simp only [List.length_map, maxLen] at this; omega
  obtain ⟨a, c, rfl⟩ : ∃ a c, v = .slice a l.length c := by simpa using hs.1.shape
  have HS := Lib.hid hs
  have HAW := Lib.hid (fun W (hW : Below w.heap.size w W) => awake_any W (hap.below hW))
  have HFE := Lib.hid (fun W (hW : Below w.heap.size w W) => few_any l (.slice a l.length c) W (hs.below hW))
  have HB := Lib.hid (Below.refl w.heap.size w)
  obtain ⟨f, hff⟩ : ∃ f, fewB l = f := ⟨_, rfl⟩
  rw [hff] at HFE
  cases f with
  | false =>
    clear hap hs hff hf
    go_enter Tryd.func3, Tryd.ntmps3
    go_wp2_with (first
      | ((with_reducible refine (HAW.out _ HB.out).mono ?_); rintro e wa ⟨rfl, hba⟩; have HB := Lib.hid (HB.out.trans (hba.mono HB.out.size)); clear hba)
      | ((with_reducible refine (HFE.out _ HB.out).mono ?_); rintro e wa ⟨rfl, hba⟩; have HB := Lib.hid (HB.out.trans (hba.mono HB.out.size)); clear hba)
      | fail)
    go_ret
    exact ⟨rfl, HB.out⟩
  | true =>
  have hfw : (∀ x ∈ l, x.calls.length ≤ 8) ∧ l.length ≤ 8 := by simpa [fewB] using hff
  have HCO := Lib.hid (fun W (hW : Below w.heap.size w W) => copied_any l (.slice a l.length c) W (hs.below hW) (by omega) (fun x hx => by have := hfw.1 x hx; omega))
  have HRB := Lib.hid (fun W (hW : Below w.heap.size w W) => refBest_any l (.slice a l.length c) fr tp ready ch W (hs.below hW) hf hfw.2)
  obtain ⟨r, hr⟩ : ∃ r, bestR l fr tp ready ch = r := ⟨_, rfl⟩
  have HR := Lib.hid hr
  rw [hr] at HRB
  have hl8 : l.length ≤ 8 := hfw.2
  unfold CopP at HCO
  have tb : ((r.isSome : Bool) == r.isSome) = true := by simp
  have td : (rDay r == rDay r) = true := by simp
  have HAL := Lib.hid (fun W v u (h1 : Sl W 3 v ((rLegs r).map Lg.row)) (h2 : Sl W 3 u ((rLegs r).map Lg.row)) => (by
    have h := refAlike_any (rLegs r) (rLegs r) v u W h1 h2
    rw [decide_eq_true rfl] at h
    exact h : Calls Tryd.prog 16 #[v, u] W (RetB W true)))
  clear hap hs hff hf hfw hr
  go_enter Tryd.func3, Tryd.ntmps3
  go_wp2_with (first
    | ((with_reducible refine (HAW.out _ HB.out).mono ?_); rintro e wa ⟨rfl, hba⟩; have HB := Lib.hid (HB.out.trans (hba.mono HB.out.size)); clear hba)
    | ((with_reducible refine (HFE.out _ HB.out).mono ?_); rintro e wa ⟨rfl, hba⟩; have HB := Lib.hid (HB.out.trans (hba.mono HB.out.size)); clear hba)
    | ((with_reducible refine (HCO.out _ HB.out).mono ?_); rintro e w1 ⟨vm, m, rfl, ho1, hx1, hst, hb1⟩
       have HML : Hid (l.length = m.length) := Lib.hid (by have := congrArg List.length hst; simpa using this.symm)
       have HM1 : Hid (VsAt w1 vm m) := Lib.hid (copied_vs ho1 hx1 HML.out)
       have HST := Lib.hid hst
       have HB := Lib.hid (HB.out.trans (hb1.mono HB.out.size))
       have HPB := Lib.hid (by
         have h := best_any m vm fr tp ready ch w1 HM1.out (by have := HML.out; omega)
         rw [best_strip HST.out, HR.out] at h
         exact h : Calls Tryd.prog 13 #[vm, .string fr, .string tp, .int .i64 ready, .int .i64 ch] w1 (BestP w1 r))
       obtain ⟨am, cm, rfl⟩ : ∃ a c, vm = .slice a l.length c := Ord.row_slice ho1
       clear ho1 hx1 hst hb1)
    | ((with_reducible refine (HPB.out).mono ?_); intro e w2 hq2; obtain ⟨a2, c2, rfl, hb2, hs2⟩ := best_tup hq2; have HB2 := Lib.hid hb2; have HS2 := Lib.hid hs2; have HB := Lib.hid (HB.out.trans (hb2.mono HB.out.size)); clear hq2 hb2 hs2)
    | ((with_reducible refine (HRB.out _ HB.out).mono ?_); intro e w3 hq3; obtain ⟨a3, c3, rfl, hb3, hs3⟩ := best_tup hq3; have HB3 := Lib.hid (HB2.out.trans (hb3.mono HB2.out.size)); have HS3 := Lib.hid hs3; have HS2 := Lib.hid (HS2.out.below hb3 (Nat.le_refl _)); have HB := Lib.hid (HB.out.trans (hb3.mono HB.out.size)); clear hq3 hb3 hs3)
    | fail)
  generalize (rLegs r).length = n9 at *
  go_loopw [51, 18] (fun iv _ wr => ∃ k : Nat, k ≤ l.length ∧ iv = .int .i64 k ∧ Below w3.heap.size w3 wr) (fun i _ _ => l.length - (intOf i).toNat)
  case atStart => exact ⟨0, Nat.zero_le _, rfl, Below.refl _ _⟩
  case round =>
    obtain ⟨k, hk, rfl, hbel⟩ := hrel
    have HBL := Lib.hid hbel
    by_cases hlt : k < l.length
    · have hki : ((k : Nat) : Int) < (l.length : Int) := by omega
      have HKL := Lib.hid hlt
      have hkm : k < m.length := by rw [← HML.out]; exact hlt
      have hsk : m[k].ship = l[k].ship ∧ m[k].calls = l[k].calls := by
        have h := congrArg (fun q => q[k]?) HST.out
        simp only [List.getElem?_map, List.getElem?_eq_getElem hlt, List.getElem?_eq_getElem hkm, Option.map_some, Option.some.injEq] at h
        exact Prod.mk.inj h
      obtain ⟨b, off, rfl, hbb, -, -, -⟩ := vs_at HS.out hlt
      obtain ⟨g, og, hag, hgb, -, -, -⟩ := vs_at HM1.out hkm
      subst hag
      have HVW : Hid (∀ W, Below wr.heap.size wr W → W.cell? ⟨b, off + k * 2, none⟩ = some (.string l[k].ship) ∧ W.cell? ⟨b, off + k * 2 + 1, none⟩ = some l[k].val ∧ Sl W 4 l[k].val (l[k].calls.map Cl.row)) := Lib.hid (fun W hW => by
        have hw := HB.out.trans ((HBL.out.trans (hW.mono HBL.out.size)).mono HB.out.size)
        obtain ⟨b', off', he, -, h0, h1, h2⟩ := vs_at (HS.out.below hw) hlt
        simp only [Option.some.injEq, Addr.mk.injEq, and_true] at he
        obtain ⟨rfl, rfl⟩ := he
        exact ⟨h0, h1, h2⟩)
      have HMW : Hid (∀ W, Below wr.heap.size wr W → W.cell? ⟨g, og + k * 2, none⟩ = some (.string l[k].ship) ∧ W.cell? ⟨g, og + k * 2 + 1, none⟩ = some m[k].val ∧ Sl W 4 m[k].val (l[k].calls.map Cl.row)) := Lib.hid (fun W hW => by
        have hw := HB3.out.trans ((HBL.out.trans (hW.mono HBL.out.size)).mono HB3.out.size)
        obtain ⟨b', off', he, -, h0, h1, h2⟩ := vs_at (HM1.out.below hw) hkm
        simp only [Option.some.injEq, Addr.mk.injEq, and_true] at he
        obtain ⟨rfl, rfl⟩ := he
        rw [hsk.1] at h0
        rw [hsk.2] at h2
        exact ⟨h0, h1, h2⟩)
      have HV := HVW
      have HM := HMW
      generalize m[k].val = mv at *
      generalize l[k].val = lv at *
      generalize l[k].ship = sh at *
      generalize l[k].calls = cs at *
      clear hsk hkm hbel hk hbb hgb
      go_wp2_with fail
      refine Any.region_lit (fun
        | 0 => Any.val (.slice (some ⟨g, og, none⟩) l.length cm)
        | 1 => Any.val (.int .i64 (k : Int))
        | 2 => Any.val (.pointer (some ⟨g, og + k * 2, none⟩))
        | 3 => Any.val (.agg #[.string sh, mv])
        | 4 => Any.val (.slice (some ⟨b, off, none⟩) l.length c)
        | 5 => Any.val (.int .i64 (k : Int))
        | 6 => Any.val (.pointer (some ⟨b, off + k * 2, none⟩))
        | 7 => Any.val (.agg #[.string sh, lv])
        | 8 => Any.val (.bool true)
        | 9 => Any.val (.bool false)
        | _ => Any.idle) (by kernel_rfl) (by kernel_rfl) (by kernel_rfl) ?_ ?_ ?_
      · intro i _
        match i with
        | 0 => exact Any.lasts_val _
        | 1 => exact Any.lasts_val _
        | 2 => exact Any.lasts_val _
        | 3 => exact Any.lasts_val _
        | 4 => exact Any.lasts_val _
        | 5 => exact Any.lasts_val _
        | 6 => exact Any.lasts_val _
        | 7 => exact Any.lasts_val _
        | 8 => exact Any.lasts_val _
        | 9 => exact Any.lasts_val _
        | n + 10 => exact Any.lasts_idle
      · refine ⟨?_, ?_, ?_, ?_, ?_, ?_, ?_, ?_, ?_, ?_, trivial⟩
        · refine Any.owes_plain rfl fun ρ wo hs' hb hc' => ?_
          have h11 : ρ (.tmp 11) = .slice (some ⟨g, og, none⟩) l.length cm := hs'.old' 11 (by kernel_rfl)
          exact Any.ok_move (Any.post_val hb rfl h11)
        · refine Any.owes_plain rfl fun ρ wo hs' hb hc' => ?_
          have h18 : ρ (.tmp 18) = .int .i64 (k : Int) := hs'.old' 18 (by kernel_rfl)
          exact Any.ok_move (Any.post_val hb rfl h18)
        · refine Any.owes_plain rfl fun ρ wo hs' hb hc' => ?_
          have h54 : ρ (.tmp 54) = .slice (some ⟨g, og, none⟩) l.length cm := hs'.new' 54 0 (by kernel_rfl)
          have h55 : ρ (.tmp 55) = .int .i64 (k : Int) := hs'.new' 55 1 (by kernel_rfl)
          go_simp
          exact Any.post_val hb rfl rfl
        · refine Any.owes_plain rfl fun ρ wo hs' hb hc' => ?_
          have h56 : ρ (.tmp 56) = .pointer (some ⟨g, og + k * 2, none⟩) := hs'.new' 56 2 (by kernel_rfl)
          have c0 := (HM.out wo (below_undrew hb)).1
          have c1 := (HM.out wo (below_undrew hb)).2.1
          go_simp
          exact Any.post_val hb rfl rfl
        · refine Any.owes_plain rfl fun ρ wo hs' hb hc' => ?_
          have h0 : ρ (.tmp 0) = .slice (some ⟨b, off, none⟩) l.length c := hs'.old' 0 (by kernel_rfl)
          exact Any.ok_move (Any.post_val hb rfl h0)
        · refine Any.owes_plain rfl fun ρ wo hs' hb hc' => ?_
          have h18 : ρ (.tmp 18) = .int .i64 (k : Int) := hs'.old' 18 (by kernel_rfl)
          exact Any.ok_move (Any.post_val hb rfl h18)
        · refine Any.owes_plain rfl fun ρ wo hs' hb hc' => ?_
          have h58 : ρ (.tmp 58) = .slice (some ⟨b, off, none⟩) l.length c := hs'.new' 58 4 (by kernel_rfl)
          have h59 : ρ (.tmp 59) = .int .i64 (k : Int) := hs'.new' 59 5 (by kernel_rfl)
          go_simp
          exact Any.post_val hb rfl rfl
        · refine Any.owes_plain rfl fun ρ wo hs' hb hc' => ?_
          have h60 : ρ (.tmp 60) = .pointer (some ⟨b, off + k * 2, none⟩) := hs'.new' 60 6 (by kernel_rfl)
          have c0 := (HV.out wo (below_undrew hb)).1
          have c1 := (HV.out wo (below_undrew hb)).2.1
          go_simp
          exact Any.post_val hb rfl rfl
        · refine Any.owes_plain rfl fun ρ wo hs' hb hc' => ?_
          have h57 : ρ (.tmp 57) = .agg #[.string sh, mv] := hs'.new' 57 3 (by kernel_rfl)
          have h61 : ρ (.tmp 61) = .agg #[.string sh, lv] := hs'.new' 61 7 (by kernel_rfl)
          have hf := hs'.func 15
          have hr := refSame_any sh sh mv lv cs cs wo (HM.out wo (below_undrew hb)).2.2 (HV.out wo (below_undrew hb)).2.2
          rw [decide_eq_true (show sh = sh ∧ cs = cs from ⟨rfl, rfl⟩)] at hr
          go_simp
          exact hr.mono fun e w' ⟨he, hb'⟩ => ⟨_, he, Any.post_vals hb rfl rfl hb'⟩
        · refine Any.owes_plain rfl fun ρ wo hs' hb hc' => ?_
          have h62 : ρ (.tmp 62) = .bool true := hs'.new' 62 8 (by kernel_rfl)
          go_simp
          exact Any.post_val hb rfl rfl
      intro vals wz hb hk ha
      have h9 : vals 9 = .bool false := hk 9 (by kernel_rfl)
      have HBY := Lib.hid hb
      clear hk ha hb
      simp only [Any.putAll]
      go_frame
      simp only [Nat.zero_add, Nat.reduceAdd]
      rw [h9]
      clear h9
      go_wp2_with fail
      go_roundw
      case rel => exact ⟨k + 1, HKL.out, by go_num, HBL.out.trans (HBY.out.mono HBL.out.size)⟩
      case measure => have := HKL.out; (simp [intOf]) <;> omega
    · have hki : ¬ ((k : Nat) : Int) < (l.length : Int) := by omega
      have HL := Lib.hid (HAL.out wr _ _ (HS2.out.below HBL.out (Nat.le_refl _)) (HS3.out.below HBL.out (Nat.le_refl _)))
      clear hbel hk hlt
      go_wp2_with (first
        | ((with_reducible refine (HL.out).mono ?_); rintro e w6 ⟨rfl, hb6⟩; have HB6 := Lib.hid (HB.out.trans ((HBL.out.trans (hb6.mono HBL.out.size)).mono HB.out.size)); clear hb6)
        | fail)
      go_ret
      exact ⟨rfl, HB6.out⟩

theorem lifted (os : Os) (started : os.Started) (H : Type) (enc : TypeId × Value → H) :
    ReturnsInHanded {} Tryd.checked os 3 .any (fun w args => (Rows.portFindsSpec.pre enc Tryd.prog Tryd.f3 [] false w args ∧ laidMetH Tryd.prog laidA w) ∧ sizedMet enc Tryd.prog Tryd.f3 (OpenSpec.ofChange Rows.portFindsSpec) false w args) (Rows.portFindsSpec.post enc Tryd.prog Tryd.f3 false true false false) := by
  refine law_liftedD os started (by kernel_rfl) Tryd.func3
    (ChangeSpec.witness_shaped (enc := enc) (C := Tryd.checked) (os := os) (X := fun w _ => laidMetH Tryd.prog laidA w) false (World.doorLaid Tryd.prog 400 os) #[.slice none 0 0, .string ⟨#[]⟩, .string ⟨#[]⟩, .int .i64 0, .int .i64 0] 8 rfl (World.shaped_of_RefB (by kernel_rfl) (by kernel_rfl)) (by kernel_rfl) (by kernel_rfl) (by kernel_rfl) (door_met os _))
    (by kernel_rfl) rfl rfl ?_ ?_
  · intro vs ds W p hA
    rw [Tryd.params3] at hA
    obtain ⟨v0, vs0, d0, ds0, p0, q0, rfl, rfl, rfl, h0, r0⟩ := trodAll_cons hA
    obtain ⟨v1, vs1, d1, ds1, p1, q1, rfl, rfl, rfl, h1, r1⟩ := trodAll_cons r0
    obtain ⟨v2, vs2, d2, ds2, p2, q2, rfl, rfl, rfl, h2, r2⟩ := trodAll_cons r1
    obtain ⟨v3, vs3, d3, ds3, p3, q3, rfl, rfl, rfl, h3, r3⟩ := trodAll_cons r2
    obtain ⟨v4, vs4, d4, ds4, p4, q4, rfl, rfl, rfl, h4, r4⟩ := trodAll_cons r3
    obtain ⟨rfl, rfl, rfl⟩ := trodAll_nil r4
    rfl
  · intro W base args ds p hap hval hA
    rw [Tryd.params3] at hA hval
    obtain ⟨v0, vs0, d0, ds0, p0, q0, hargs, rfl, rfl, h0, r0⟩ := trodAll_cons hA
    obtain ⟨v1, vs1, d1, ds1, p1, q1, rfl, rfl, rfl, h1, r1⟩ := trodAll_cons r0
    obtain ⟨v2, vs2, d2, ds2, p2, q2, rfl, rfl, rfl, h2, r2⟩ := trodAll_cons r1
    obtain ⟨v3, vs3, d3, ds3, p3, q3, rfl, rfl, rfl, h3, r3⟩ := trodAll_cons r2
    obtain ⟨v4, vs4, d4, ds4, p4, q4, rfl, rfl, rfl, h4, r4⟩ := trodAll_cons r3
    obtain ⟨rfl, rfl, rfl⟩ := trodAll_nil r4
    obtain rfl : args = #[v0, v1, v2, v3, v4] := by cases args; simp_all
    obtain ⟨l0, hs0, hf0⟩ := open_voyages (hval 0 22 v0 rfl rfl) h0
    obtain ⟨a1, rfl, rfl, rfl, w1⟩ := Go.ChangeMaps.open_string Tryd.underlying9 (hval 1 9 v1 rfl rfl) h1
    obtain ⟨a2, rfl, rfl, rfl, w2⟩ := Go.ChangeMaps.open_string Tryd.underlying9 (hval 2 9 v2 rfl rfl) h2
    obtain ⟨a3, rfl, rfl, rfl, w3⟩ := open_int Tryd.underlying3 (hval 3 3 v3 rfl rfl) h3
    obtain ⟨a4, rfl, rfl, rfl, w4⟩ := open_int Tryd.underlying3 (hval 4 3 v4 rfl rfl) h4
    exact walk W hap l0 v0 hs0 hf0 a1 w1 a2 w2 a3 w3 a4 w4

theorem over : Rows.portFindsRow.holds Tryd.pinned (OpenSpec.ofChange Rows.portFindsSpec) :=
  OpenClaim.holds_of_wide 3 Tryd.f3 rfl rfl rfl rfl rfl rfl rfl ⟨rfl, rfl, rfl, rfl, rfl⟩ rfl rfl rfl rfl rfl (by kernel_rfl) Tryd.func3 (by kernel_rfl)
    (of_decide_eq_true (by kernel_rfl)) (by unfold Func.isWrapper; rw [if_neg (by decide +kernel)]; exact ⟨rfl, rfl⟩)
    (fun os started H enc _ => lifted os started H enc)

/-- The statement. -/
theorem proved : Rows.PortFindsCardSaid :=
  Claim7.holds_tied_plain_at .later [] [.data, .data, .data] true _ true
    over (fun _ h => by cases h) (by kernel_rfl) (fun _ h => by cases h) portFinds_row_tie rfl ⟨rfl, rfl⟩ (by kernel_rfl) rfl
    (fun f fn hf hfn => by
      obtain rfl : f = 3 := Option.some.inj (hf.symm.trans (by kernel_rfl))
      obtain rfl : fn = Tryd.f3 := (Option.some.inj (Tryd.func3.symm.trans hfn)).symm
      exact ⟨by kernel_rfl, fun j t ht => by
        have hall : (Tryd.f3.params.toList.all fun u => !Tryd.prog.wantsStandIn u) = true := by kernel_rfl
        have hm : t ∈ Tryd.f3.params.toList := by simpa using Array.mem_of_getElem? ht
        exact (show Tryd.prog.wantsStandIn t = false by simpa using List.all_eq_true.1 hall t hm)⟩)
    (by kernel_rfl)
#print axioms proved
end Go.Proofs.YtbmjficiceiekaaDoor.portFinds
