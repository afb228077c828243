/- What is done to a chain isn't done to its copy, nor to what it told; for every two rows of hand-overs and every box. No condition. -/
import Derived.Test.YtmjblefjaccocaaCopy17
namespace Go.Proofs.Ytmjblefjaccocaa.Sc
open Go Go.RowKit Go.ChangeShapes Go.WideShapes Go.ChangeAt Mp

/-- What is done on top. -/
def onTop (done l : List Hd) : List Hd := l.foldl (fun d h => doneB (stepE d h) d h) done
theorem onTop_take (done l : List Hd) (k : Nat) (h : k < l.length) : onTop done (l.take (k + 1)) = doneB (stepE (onTop done (l.take k)) l[k]) (onTop done (l.take k)) l[k] := by
  rw [List.take_succ_eq_append_getElem h, onTop, List.foldl_append]
  rfl
theorem onTop_len : ∀ (l done : List Hd), (onTop done l).length ≤ done.length + l.length
  | [], _ => by simp [onTop]
  | h :: r, done => by
    have h1 := onTop_len r (doneB (stepE done h) done h)
    have h2 := doneB_len (stepE done h) done h
    simp only [onTop, List.foldl_cons, List.length_cons] at *
    omega
theorem onTop_own (box : ByteArray) : ∀ (l done : List Hd), ∃ X, ownOf (onTop done l) box = ownOf done box ++ X
  | [], done => ⟨[], by simp [onTop]⟩
  | h :: r, done => by
    obtain ⟨X, hX⟩ := onTop_own box r (doneB (stepE done h) done h)
    have e : onTop done (h :: r) = onTop (doneB (stepE done h) done h) r := rfl
    rw [e, hX, doneB_own]
    by_cases hb : h.box = box
    · rw [if_pos hb, doneB]
      split
      · exact ⟨[h] ++ X, by simp⟩
      · exact ⟨X, rfl⟩
    · rw [if_neg hb]
      exact ⟨X, rfl⟩
end Go.Proofs.Ytmjblefjaccocaa.Sc
namespace Go.Proofs.Ytmjblefjaccocaa.custodyCopies
open Go Go.RowKit Go.ChangeShapes Go.WideShapes Go.ChangeAt Go.ChangeMaps Sc

set_option maxRecDepth 8000 in
set_option maxHeartbeats 4000000 in
theorem walk (w : World) (l : List Hd) (v : Value) (hs : Sl w 5 v (l.map Hd.row)) (hf : ∀ h ∈ l, h.fit) (more : List Hd) (u : Value) (hu : Sl w 5 u (more.map Hd.row)) (_ : ∀ h ∈ more, h.fit) (box : ByteArray) (_ : box.size ≤ maxLen) :
    Calls Try.prog 7 #[v, u, .string box] w (RetB w true) := by
  have HS := Lib.hid hs
  have HF := Lib.hid hf
  have hmm : more.length ≤ 9223372036854775807 := by have := hu.len_le; simp only [List.length_map, maxLen] at this; omega
  obtain ⟨ua, uc, rfl⟩ : ∃ a c, u = .slice a more.length c := by simpa using hu.shape
  have HU := Lib.hid hu
  clear hs hf hu
  go_enter Try.func7, Try.ntmps7
  go_wp2_with fail
  refine (long_any l v w HS.out).mono ?_
  rintro e w1 ⟨b, rfl, hb, hb1⟩
  have HB1 := Lib.hid hb1
  clear hb1
  cases b with
  | true =>
    have HBE := HB1
    clear hb
    go_wp2_with (first | ((with_reducible refine (awake_any _).mono ?_); rintro e w9 ⟨rfl, hb9⟩; have HB9 := Lib.hid (HBE.out.trans (hb9.mono HBE.out.size)); clear hb9) | fail)
    go_ret
    exact retB rfl HB9.out
  | false =>
    have HN : Hid (l.length ≤ 60) := Lib.hid (hb rfl)
    clear hb
    go_wp2_with fail
    refine (long_any more _ w1 (HU.out.below HB1.out (Nat.le_refl _))).mono ?_
    rintro e w2 ⟨b, rfl, hb, hb2⟩
    have HB2 := Lib.hid (HB1.out.trans (hb2.mono HB1.out.size))
    clear hb2
    cases b with
    | true =>
      have HBE := HB2
      clear hb
      go_wp2_with (first | ((with_reducible refine (awake_any _).mono ?_); rintro e w9 ⟨rfl, hb9⟩; have HB9 := Lib.hid (HBE.out.trans (hb9.mono HBE.out.size)); clear hb9) | fail)
      go_ret
      exact retB rfl HB9.out
    | false =>
      have HM : Hid (more.length ≤ 60) := Lib.hid (hb rfl)
      clear hb
      by_cases h60 : box.size ≤ 60
      · have t1 : decide ((60 : Int) < (box.size : Int)) = false := decide_eq_false (by omega)
        clear h60
        have HN4 : Hid (l.length ≤ 4000) := Lib.hid (by have := HN.out; omega)
        have HDL : Hid ((doneOf l).length ≤ 60) := Lib.hid (by have := doneOf_len l; have := HN.out; omega)
        have HD4 : Hid ((doneOf l).length ≤ 4000) := Lib.hid (by have := HDL.out; omega)
        have HDF := Lib.hid (doneOf_fit HF.out)
        go_wp2_with (first
          | ((with_reducible refine (play_any l v _ (HS.out.below HB2.out (Nat.le_refl _)) HN4.out HF.out).mono ?_); rintro e w3 ⟨p, v3, F3, rfl, hb3, hc3, hF3, -, -⟩; have HB3 := Lib.hid (HB2.out.trans (hb3.mono HB2.out.size)); obtain ⟨bp, rfl⟩ : ∃ bp, p = .pointer (some ⟨bp, 0, none⟩) := (by obtain ⟨bp, bm, l, h, _⟩ := hc3; exact ⟨bp, h⟩); have HC3 := Lib.hid hc3; have HF3 := Lib.hid hF3; clear hb3 hc3 hF3)
          | ((with_reducible refine (copy_any (.pointer (some ⟨bp, 0, none⟩)) (doneOf l) F3 _ HC3.out HD4.out).mono ?_); rintro e w4 ⟨q, Fd, rfl, hb4, hd4, hFd⟩; have HB4 := Lib.hid (HB3.out.trans (hb4.mono HB3.out.size)); have HC4 := Lib.hid (HC3.out.below hb4); obtain ⟨bq, rfl⟩ : ∃ bp, q = .pointer (some ⟨bp, 0, none⟩) := (by obtain ⟨bp, bm, l, h, _⟩ := hd4; exact ⟨bp, h⟩); have HE4 := Lib.hid hd4; have HX4 : Hid (∀ b, Fd b → ¬ F3 b) := Lib.hid (fun b h1 h2 => by have h3 := hFd b h1; have h4 := HC3.out.lt b h2; omega); clear hb4 hd4 hFd)
          | ((with_reducible refine (history_any box (.pointer (some ⟨bp, 0, none⟩)) (doneOf l) F3 _ HC4.out HD4.out).mono ?_); rintro e w5 ⟨vw, rfl, ho5, hb5⟩; have HB5 := Lib.hid (HB4.out.trans (hb5.mono HB4.out.size)); have HC5 := Lib.hid (HC4.out.below hb5); have HE5 := Lib.hid (HE4.out.below hb5); have HW5 := Lib.hid ho5; have HOW : Hid (Off F3 vw) := Lib.hid (ownsRow_off ho5 (fun b h1 _ h2 => by have := HC4.out.lt b h2; omega)); obtain ⟨aw, cw, rfl⟩ := own_shape ho5; clear hb5 ho5)
          | ((with_reducible refine (boxes_any (.pointer (some ⟨bp, 0, none⟩)) (doneOf l) F3 _ HC5.out HD4.out HDF.out).mono ?_); rintro e w6 ⟨vb, rfl, ho6, hb6⟩; have HB6 := Lib.hid (HB5.out.trans (hb6.mono HB5.out.size)); have HC6 := Lib.hid (HC5.out.below hb6); have HE6 := Lib.hid (HE5.out.below hb6); have HW6 := Lib.hid (ownsRow_below HW5.out hb6); have HA6 := Lib.hid ho6; have HOA : Hid (Off F3 vb) := Lib.hid (ownsRow_off ho6 (fun b h1 _ h2 => by have := HC5.out.lt b h2; omega)); clear hb6 ho6)
          | fail)
        have HBOWN : Hid (∃ X, ownOf (onTop (doneOf l) more) box = ownOf (doneOf l) box ++ X) := Lib.hid (onTop_own box more (doneOf l))
        go_loopw [45] (fun i wr => ∃ (k : Nat) (F : Nat → Prop), k ≤ more.length ∧ i = .int .i64 k ∧ Chain wr F (.pointer (some ⟨bp, 0, none⟩)) (onTop (doneOf l) (more.take k)) ∧ (∀ b, F b → w.heap.size ≤ b) ∧ Below w.heap.size w wr ∧
          Chain wr Fd (.pointer (some ⟨bq, 0, none⟩)) (doneOf l) ∧ (∀ b, Fd b → ¬ F b) ∧ wr.ownsRow w4.heap.size 41 5 (.slice aw (ownOf (doneOf l) box).length cw) (ownOf (doneOf l) box).length (hdCells (ownOf (doneOf l) box)) ∧ Off F (.slice aw (ownOf (doneOf l) box).length cw) ∧
          wr.ownsRow w5.heap.size 9 1 vb (boxesS (doneOf l)).length (strCells (boxesS (doneOf l))) ∧ Off F vb) (fun i _ => more.length - (intOf i).toNat)
        case atStart => exact ⟨0, F3, Nat.zero_le _, rfl, HC6.out, fun b h => Nat.le_trans HB2.out.size (HF3.out b h), HB6.out, HE6.out, HX4.out, HW6.out, HOW.out, HA6.out, HOA.out⟩
        case round =>
        obtain ⟨k, F, hk, rfl, hcw, hfw, hbw, hew, hxw, hww, how, haw, hoa⟩ := hrel
        have HCW := Lib.hid hcw
        have HFW := Lib.hid hfw
        have HBW := Lib.hid hbw
        have HEW := Lib.hid hew
        have HXW := Lib.hid hxw
        have HWW := Lib.hid hww
        have HOW := Lib.hid how
        have HAW := Lib.hid haw
        have HOA := Lib.hid hoa
        clear hcw hfw hew hxw hww how haw hoa
        by_cases hlt : k < more.length
        · obtain ⟨b, off, rfl, -, hb, hc⟩ := HU.out.at (i := k) (by simpa using hlt)
          have hr := hc k more[k].row (by simp [hlt])
          have d0 : wr.cell? ⟨b, off + k * 5, none⟩ = some (.string more[k].box) := (hbw.cell (p := ⟨b, off + k * 5, none⟩) hb).trans (hr 0 _ rfl)
          have d1 : wr.cell? ⟨b, off + k * 5 + 1, none⟩ = some (.string more[k].frm) := (hbw.cell (p := ⟨b, off + k * 5 + 1, none⟩) hb).trans (hr 1 _ rfl)
          have d2 : wr.cell? ⟨b, off + k * 5 + 2, none⟩ = some (.string more[k].to) := (hbw.cell (p := ⟨b, off + k * 5 + 2, none⟩) hb).trans (hr 2 _ rfl)
          have d3 : wr.cell? ⟨b, off + k * 5 + 3, none⟩ = some (.string more[k].place) := (hbw.cell (p := ⟨b, off + k * 5 + 3, none⟩) hb).trans (hr 3 _ rfl)
          have d4 : wr.cell? ⟨b, off + k * 5 + 4, none⟩ = some (.int .i64 more[k].day) := (hbw.cell (p := ⟨b, off + k * 5 + 4, none⟩) hb).trans (hr 4 _ rfl)
          have HT := Lib.hid (onTop_take (doneOf l) more k hlt)
          have HKL : Hid ((onTop (doneOf l) (more.take k)).length ≤ 4000) := Lib.hid (by have h1 := onTop_len (more.take k) (doneOf l); have h2 := HDL.out; have h3 := HM.out; simp at h1; omega)
          clear hr hc hbw
          generalize onTop (doneOf l) (more.take k) = done at *
          generalize more[k] = x at *
          have HBO := Lib.hid (one_below wr (.cells #[.string x.box, .string x.frm, .string x.to, .string x.place, .int .i64 x.day] 41))
          have HCX := Lib.hid (HCW.out.below HBO.out)
          have HBX := Lib.hid (HBW.out.trans (HBO.out.mono HBW.out.size))
          by_cases hfe : x.frm = ⟨#[]⟩
          · have t2 := empty_yes hfe
            have S := Lib.hid (step_begin x hfe (.pointer (some ⟨bp, 0, none⟩)) done F _ HCX.out HKL.out)
            clear hfe
            generalize stepE done x = E at *
            go_wp2_with (first | ((with_reducible refine S.out.mono ?_); rintro e w7 ⟨rfl, hk7, F7, hc7, hF7⟩; have HK7 := Lib.hid hk7; have HC7 := Lib.hid hc7; have HF7 := Lib.hid hF7; clear hk7 hc7 hF7) | fail)
            go_roundw
            case rel =>
              refine ⟨k + 1, F7, by omega, by go_num, by rw [HT.out]; exact HC7.out, fun b h => (HF7.out b h).elim (HFW.out b) (fun h => Nat.le_trans HBX.out.size h), HK7.out.behind HBX.out HBX.out.size (fun k hk h => by have := HFW.out k h; omega),
                (HEW.out.below HBO.out).keep HK7.out HXW.out, fun b h1 h2 => (HF7.out b h2).elim (HXW.out b h1) (fun h => by have := HEW.out.lt b h1; have := HBO.out.size; omega),
                ownsRow_keep (ownsRow_below HWW.out HBO.out) HK7.out HOW.out, fun b h1 h2 => (HF7.out b h2).elim (HOW.out b h1) (fun h => by have := (HWW.out.lt b h1).2; have := HBO.out.size; omega),
                ownsRow_keep (ownsRow_below HAW.out HBO.out) HK7.out HOA.out, fun b h1 h2 => (HF7.out b h2).elim (HOA.out b h1) (fun h => by have := (HAW.out.lt b h1).2; have := HBO.out.size; omega)⟩
            case measure => simp [intOf]; omega
          · have t2 := empty_no hfe
            have S := Lib.hid (step_hand x hfe (.pointer (some ⟨bp, 0, none⟩)) done F _ HCX.out HKL.out)
            unfold Hd.cells at S
            clear hfe
            generalize stepE done x = E at *
            go_wp2_with (first | ((with_reducible refine S.out.mono ?_); rintro e w7 ⟨rfl, hk7, F7, hc7, hF7⟩; have HK7 := Lib.hid hk7; have HC7 := Lib.hid hc7; have HF7 := Lib.hid hF7; clear hk7 hc7 hF7) | fail)
            go_roundw
            case rel =>
              refine ⟨k + 1, F7, by omega, by go_num, by rw [HT.out]; exact HC7.out, fun b h => (HF7.out b h).elim (HFW.out b) (fun h => Nat.le_trans HBX.out.size h), HK7.out.behind HBX.out HBX.out.size (fun k hk h => by have := HFW.out k h; omega),
                (HEW.out.below HBO.out).keep HK7.out HXW.out, fun b h1 h2 => (HF7.out b h2).elim (HXW.out b h1) (fun h => by have := HEW.out.lt b h1; have := HBO.out.size; omega),
                ownsRow_keep (ownsRow_below HWW.out HBO.out) HK7.out HOW.out, fun b h1 h2 => (HF7.out b h2).elim (HOW.out b h1) (fun h => by have := (HWW.out.lt b h1).2; have := HBO.out.size; omega),
                ownsRow_keep (ownsRow_below HAW.out HBO.out) HK7.out HOA.out, fun b h1 h2 => (HF7.out b h2).elim (HOA.out b h1) (fun h => by have := (HAW.out.lt b h1).2; have := HBO.out.size; omega)⟩
            case measure => simp [intOf]; omega
        · have hke : k = more.length := by omega
          rw [hke, List.take_length] at HCW
          obtain ⟨X, hX⟩ := HBOWN.out
          have HX := Lib.hid hX
          have HTL : Hid ((onTop (doneOf l) more).length ≤ 4000) := Lib.hid (by have h1 := onTop_len more (doneOf l); have h2 := HDL.out; have h3 := HM.out; omega)
          obtain ⟨m, hm⟩ : ∃ m, (ownOf (doneOf l) box ++ X).length = m := ⟨_, rfl⟩
          have hnm : (ownOf (doneOf l) box).length ≤ m := by rw [← hm]; simp
          have t3 : decide ((ownOf (doneOf l) box).length ≤ m) = true := decide_eq_true hnm
          have t4 : decide (((ownOf (doneOf l) box).length : Int) ≤ (m : Int)) = true := decide_eq_true (by omega)
          have HNM := Lib.hid hnm
          have HM2 := Lib.hid hm
          clear hX hm hbw hnm
          go_wp2_with (first
            | ((with_reducible refine (history_any box (.pointer (some ⟨bq, 0, none⟩)) (doneOf l) Fd _ HEW.out HD4.out).mono ?_); rintro e wA ⟨vA, rfl, hoA, hbA⟩; have HBA := Lib.hid (HBW.out.trans (hbA.mono HBW.out.size)); have HCA := Lib.hid (HCW.out.below hbA); have HEA := Lib.hid (HEW.out.below hbA); have HWA := Lib.hid (ownsRow_below HWW.out hbA); have HAA := Lib.hid (ownsRow_below HAW.out hbA); have HRA := Lib.hid (own_hands hoA rfl); clear hbA hoA)
            | ((with_reducible refine (refSame_any (ownOf (doneOf l) box) (ownOf (doneOf l) box) vA _ _ HRA.out (own_hands HWA.out rfl)).mono ?_); rintro e wB ⟨rfl, hbB⟩; rw [decide_eq_true rfl]; have HBB := Lib.hid (HBA.out.trans (hbB.mono HBA.out.size)); have HCB := Lib.hid (HCA.out.below hbB); have HEB := Lib.hid (HEA.out.below hbB); have HWB := Lib.hid (ownsRow_below HWA.out hbB); have HAB := Lib.hid (ownsRow_below HAA.out hbB); clear hbB)
            | ((with_reducible refine (boxes_any (.pointer (some ⟨bq, 0, none⟩)) (doneOf l) Fd _ HEB.out HD4.out HDF.out).mono ?_); rintro e wC ⟨vC, rfl, hoC, hbC⟩; have HBC := Lib.hid (HBB.out.trans (hbC.mono HBB.out.size)); have HCC := Lib.hid (HCB.out.below hbC); have HWC := Lib.hid (ownsRow_below HWB.out hbC); have HAC := Lib.hid (ownsRow_below HAB.out hbC); have HRC := Lib.hid (own_strs hoC rfl); clear hbC hoC)
            | ((with_reducible refine (refTexts_any (boxesS (doneOf l)) (boxesS (doneOf l)) vC vb _ HRC.out (own_strs HAC.out rfl)).mono ?_); rintro e wD ⟨rfl, hbD⟩; rw [decide_eq_true rfl]; have HBD := Lib.hid (HBC.out.trans (hbD.mono HBC.out.size)); have HCD := Lib.hid (HCC.out.below hbD); have HWD := Lib.hid (ownsRow_below HWC.out hbD); clear hbD)
            | ((with_reducible refine (history_any box (.pointer (some ⟨bp, 0, none⟩)) (onTop (doneOf l) more) F _ HCD.out HTL.out).mono ?_); rintro e wE ⟨vE, rfl, hoE, hbE⟩; rw [HX.out, HM2.out] at hoE; have HBE := Lib.hid (HBD.out.trans (hbE.mono HBD.out.size)); have HWE := Lib.hid (ownsRow_below HWD.out hbE); obtain ⟨aE, cE, rfl⟩ := own_shape hoE; have hcap : (ownOf (doneOf l) box).length ≤ cE := Nat.le_trans HNM.out (own_cap hoE); have qs : ∀ w, (Instr.slice 22 (.slice aE m cE) none (some (.int .i64 (ownOf (doneOf l) box).length)) none).run Try.prog w = .ok (.slice aE (ownOf (doneOf l) box).length cE) w := fun w => (by obtain ⟨i0, hi, _⟩ := info_parts infoHd; exact Any.run_slice_to Try.underlying22 hi aE m cE _ hcap); have HRE : Hid (Sl wE 5 (.slice aE (ownOf (doneOf l) box).length cE) ((ownOf (doneOf l) box).map Hd.row)) := Lib.hid (by have h1 := slice_rows (n := (ownOf (doneOf l) box).length) (by have h2 := own_hands hoE HM2.out.symm; rw [← HM2.out] at h2; exact h2) (by simp); rwa [List.take_left] at h1); clear hbE hoE hcap)
            | ((with_reducible refine (refSame_any (ownOf (doneOf l) box) (ownOf (doneOf l) box) _ _ _ HRE.out (own_hands HWE.out rfl)).mono ?_); rintro e wF ⟨rfl, hbF⟩; rw [decide_eq_true rfl]; have HBF := Lib.hid (HBE.out.trans (hbF.mono HBE.out.size)); clear hbF)
            | ((with_reducible refine (awake_any _).mono ?_); rintro e wG ⟨rfl, hbG⟩; have HBG := Lib.hid (HBF.out.trans (hbG.mono HBF.out.size)); clear hbG)
            | fail)
          go_ret
          exact retB rfl HBG.out
      · have t1 : decide ((60 : Int) < (box.size : Int)) = true := decide_eq_true (by omega)
        have HBE := HB2
        go_wp2_with (first | ((with_reducible refine (awake_any _).mono ?_); rintro e w9 ⟨rfl, hb9⟩; have HB9 := Lib.hid (HBE.out.trans (hb9.mono HBE.out.size)); clear hb9) | fail)
        go_ret
        exact retB rfl HB9.out

theorem lifted (os : Os) (started : os.Started) (H : Type) (enc : TypeId × Value → H) :
    ReturnsInHanded {} Try.checked os 7 .any (Rows.custodyCopiesSpec.pre6 enc Try.prog Try.f7 Rows.custodyCopiesRow.domain false) (Rows.custodyCopiesSpec.post enc Try.prog Try.f7 false true false false) := by
  refine law_lifted os started (by kernel_rfl) Try.func7
    (ChangeSpec.witness6 (enc := enc) (C := Try.checked) false ⟨#[], #[.slice none 0 0, .slice none 0 0, .string ⟨#[]⟩], []⟩ 8 (by kernel_rfl) (by kernel_rfl) (by kernel_rfl) (by kernel_rfl))
    (by kernel_rfl) rfl rfl ?_ ?_
  · intro vs ds W p hA
    rw [Try.params7] at hA
    obtain ⟨v0, vs0, d0, ds0, p0, q0, rfl, rfl, rfl, h0, r0⟩ := trodAll_cons hA
    obtain ⟨v1, vs1, d1, ds1, p1, q1, rfl, rfl, rfl, h1, r1⟩ := trodAll_cons r0
    obtain ⟨v2, vs2, d2, ds2, p2, q2, rfl, rfl, rfl, h2, r2⟩ := trodAll_cons r1
    obtain ⟨rfl, rfl, rfl⟩ := trodAll_nil r2
    rfl
  · intro W base args ds p hval hA
    rw [Try.params7] at hA hval
    obtain ⟨v0, vs0, d0, ds0, p0, q0, hargs, rfl, rfl, h0, r0⟩ := trodAll_cons hA
    obtain ⟨v1, vs1, d1, ds1, p1, q1, rfl, rfl, rfl, h1, r1⟩ := trodAll_cons r0
    obtain ⟨v2, vs2, d2, ds2, p2, q2, rfl, rfl, rfl, h2, r2⟩ := trodAll_cons r1
    obtain ⟨rfl, rfl, rfl⟩ := trodAll_nil r2
    obtain rfl : args = #[v0, v1, v2] := by cases args; simp_all
    obtain ⟨l0, hs0, hf0⟩ := open_hands (hval 0 22 v0 rfl rfl) h0
    obtain ⟨l1, hs1, hf1⟩ := open_hands (hval 1 22 v1 rfl rfl) h1
    obtain ⟨a2, rfl, rfl, rfl, w2⟩ := open_string Try.underlying9 (hval 2 9 v2 rfl rfl) h2
    exact walk W l0 v0 hs0 hf0 l1 v1 hs1 hf1 a2 w2

theorem over : Rows.custodyCopiesRow.holds Try.pinned (OpenSpec.ofChange Rows.custodyCopiesSpec) :=
  OpenClaim.holds_of_wide 7 Try.f7 rfl rfl rfl rfl rfl rfl rfl ⟨rfl, rfl, rfl, rfl, rfl⟩ rfl rfl rfl rfl rfl (by kernel_rfl) Try.func7 (by kernel_rfl)
    (of_decide_eq_true (by kernel_rfl)) (by unfold Func.isWrapper; rw [if_neg (by decide +kernel)]; exact ⟨rfl, rfl⟩)
    (fun os started H enc _ => lifted os started H enc)

/-- The statement. -/
theorem proved : Rows.CustodyCopiesSaid := over
#print axioms proved
end Go.Proofs.Ytmjblefjaccocaa.custodyCopies
