/- awake; the program's Check. -/
import Derived.Test.YtmjblefjaccocaaPlayA17
namespace Go.Proofs.Ytmjblefjaccocaa.Sc
open Go Go.RowKit Go.ChangeShapes Go.WideShapes Go.ChangeAt Mp

set_option maxHeartbeats 1000000 in
theorem awake_any (w : World) : Calls Try.prog 10 #[] w (RetB w true) := by
  go_enter Try.func10, Try.ntmps10
  go_wp2_with fail
  refine (new_any _).mono ?_
  rintro e w1 ⟨p, rfl, hb1, F, hc, hF⟩
  obtain ⟨bp, bm, l, rfl, hch⟩ := hc
  have s1 : Calls Try.prog 22 #[.pointer (some ⟨bp, 0, none⟩), .string ⟨#[98]⟩, .string ⟨#[115]⟩, .string ⟨#[114, 105, 103, 97]⟩, .int .i64 3] w1 (After w1 F 0 (.pointer (some ⟨bp, 0, none⟩)) [exA]) := by
    have := step_begin exA rfl (.pointer (some ⟨bp, 0, none⟩)) [] F w1 ⟨bp, bm, l, rfl, hch⟩ (by simp)
    rw [exA_ok] at this
    exact this
  have S1 := Lib.hid s1
  have HB1 := Lib.hid hb1
  have HF := Lib.hid hF
  clear s1 hb1 hF hch
  go_wp2_with (first | ((with_reducible refine S1.out.mono ?_); rintro e w2 ⟨rfl, hk2, F2, hc2, hF2⟩) | fail)
  have s2 : Calls Try.prog 23 #[.pointer (some ⟨bp, 0, none⟩), .agg #[.string ⟨#[98]⟩, .string ⟨#[115]⟩, .string ⟨#[99]⟩, .string ⟨#[114, 105, 103, 97]⟩, .int .i64 4]] w2 (After w2 F2 0 (.pointer (some ⟨bp, 0, none⟩)) [exA, exB]) := by
    have := step_hand exB (by decide) (.pointer (some ⟨bp, 0, none⟩)) [exA] F2 w2 hc2 (by simp)
    rw [exB_ok] at this
    exact this
  have HB2 : Hid (Below w.heap.size w w2) := Lib.hid (hk2.behind HB1.out HB1.out.size (fun k hk h => by have := HF.out k h; omega))
  have HF2 : Hid (∀ b, F2 b → w.heap.size ≤ b) := Lib.hid fun b h => (hF2 b h).elim (HF.out b) (fun h => Nat.le_trans HB1.out.size h)
  have S2 := Lib.hid s2
  clear s2 hk2 hF2 hc2
  go_wp2_with (first
    | ((with_reducible refine S2.out.mono ?_); rintro e w3 ⟨rfl, hk3, F3, hc3, hF3⟩; have HB3 : Hid (Below w.heap.size w w3) := Lib.hid (hk3.behind HB2.out HB2.out.size (fun k hk h => by have := HF2.out k h; omega)); have HC3 := Lib.hid hc3; clear hk3 hF3 hc3)
    | ((with_reducible refine (as_any ⟨#[98]⟩ 3 _ [exA, exB] F3 _ HC3.out (by simp)).mono ?_); rintro e w4 ⟨rfl, hb4⟩; rw [ex_3]; have HC4 := Lib.hid (HC3.out.below hb4); have HB4 := Lib.hid (HB3.out.trans (hb4.mono HB3.out.size)); clear hb4)
    | ((with_reducible refine (as_any ⟨#[98]⟩ 4 _ [exA, exB] F3 _ HC4.out (by simp)).mono ?_); rintro e w5 ⟨rfl, hb5⟩; rw [ex_4]; have HC5 := Lib.hid (HC4.out.below hb5); have HB5 := Lib.hid (HB4.out.trans (hb5.mono HB4.out.size)); clear hb5)
    | ((with_reducible refine (as_any ⟨#[98]⟩ 2 _ [exA, exB] F3 _ HC5.out (by simp)).mono ?_); rintro e w6 ⟨rfl, hb6⟩; rw [ex_2]; have HB6 := Lib.hid (HB5.out.trans (hb6.mono HB5.out.size)); clear hb6)
    | fail)
  go_ret
  exact retB rfl HB6.out

set_option maxRecDepth 5000 in
set_option maxHeartbeats 4000000 in
theorem check_any (l : List Hd) (v : Value) (w : World) (hs : Sl w 5 v (l.map Hd.row)) (hlen : l.length ≤ 4000) :
    Calls Try.prog 16 #[v] w (Ret2 w (checkOf l)) := by
  have hml : l.length ≤ 9223372036854775807 := by omega
  obtain ⟨a, c, rfl⟩ : ∃ a c, v = .slice a l.length c := by simpa using hs.shape
  have HSL := Lib.hid hs
  have HLEN := Lib.hid hlen
  clear hs hlen
  go_enter Try.func16, Try.ntmps16
  go_wp2_with fail
  refine (new_any _).mono ?_
  rintro e w1 ⟨p, rfl, hb1, F0, hc0, hF0⟩
  have HC0 := Lib.hid hc0
  have HB1 := Lib.hid hb1
  have HF0 := Lib.hid hF0
  clear hc0 hb1 hF0
  go_wp2_with fail
  go_loopw [5, 7, 11] (fun _ _ i wr => ∃ (k : Nat) (F : Nat → Prop), k ≤ l.length ∧ i = .int .i64 k ∧ Chain wr F p (l.take k) ∧ (∀ b, F b → w.heap.size ≤ b) ∧ Below w.heap.size w wr ∧ checkOf l = checkFrom (l.take k) (l.drop k) k) (fun _ _ i _ => l.length - (intOf i).toNat)
  case atStart => exact ⟨0, F0, Nat.zero_le _, rfl, HC0.out, HF0.out, HB1.out, rfl⟩
  case round =>
    obtain ⟨k, F, hk, rfl, hch, hF, hbel, hchk⟩ := hrel
    have HCH := Lib.hid hch
    have HBEL := Lib.hid hbel
    have HF := Lib.hid hF
    by_cases hlt : k < l.length
    · obtain ⟨b, off, rfl, -, hb, hc⟩ := HSL.out.at (i := k) (by simpa using hlt)
      have hr := hc k l[k].row (by simp [hlt])
      have d0 : wr.cell? ⟨b, off + k * 5, none⟩ = some (.string l[k].box) := (hbel.cell (p := ⟨b, off + k * 5, none⟩) hb).trans (hr 0 _ rfl)
      have d1 : wr.cell? ⟨b, off + k * 5 + 1, none⟩ = some (.string l[k].frm) := (hbel.cell (p := ⟨b, off + k * 5 + 1, none⟩) hb).trans (hr 1 _ rfl)
      have d2 : wr.cell? ⟨b, off + k * 5 + 2, none⟩ = some (.string l[k].to) := (hbel.cell (p := ⟨b, off + k * 5 + 2, none⟩) hb).trans (hr 2 _ rfl)
      have d3 : wr.cell? ⟨b, off + k * 5 + 3, none⟩ = some (.string l[k].place) := (hbel.cell (p := ⟨b, off + k * 5 + 3, none⟩) hb).trans (hr 3 _ rfl)
      have d4 : wr.cell? ⟨b, off + k * 5 + 4, none⟩ = some (.int .i64 l[k].day) := (hbel.cell (p := ⟨b, off + k * 5 + 4, none⟩) hb).trans (hr 4 _ rfl)
      have HC : Hid (checkOf l = if stepE (l.take k) l[k] = 0 then checkFrom (l.take (k + 1)) (l.drop (k + 1)) (k + 1) else (k, stepE (l.take k) l[k])) := Lib.hid (by
        rw [hchk, List.drop_eq_getElem_cons hlt, checkFrom, List.take_succ_eq_append_getElem hlt])
      have HT := Lib.hid (List.take_succ_eq_append_getElem hlt)
      have HKL : Hid ((l.take k).length ≤ 4000) := Lib.hid (by have := HLEN.out; simp; omega)
      clear hr hc hchk hbel hch hF
      generalize l[k] = x at *
      have HBX := Lib.hid (one_below wr (.cells #[.string x.box, .string x.frm, .string x.to, .string x.place, .int .i64 x.day] 41))
      have HCX := Lib.hid (HCH.out.below HBX.out)
      have HBW := Lib.hid (HBEL.out.trans (HBX.out.mono HBEL.out.size))
      by_cases hfe : x.frm = ⟨#[]⟩
      · have t1 := empty_yes hfe
        have S := Lib.hid (step_begin x hfe p (l.take k) F _ HCX.out HKL.out)
        clear hfe
        generalize stepE (l.take k) x = e at *
        by_cases he : e = 0
        · have te : (e != 0) = false := by simp [he]
          have HEZ := Lib.hid he
          clear he
          go_wp2_with (first | ((with_reducible refine S.out.mono ?_); rintro e2 w2 ⟨rfl, hk2, F2, hc2, hF2⟩; rw [doneB, if_pos HEZ.out] at hc2; have HK2 := Lib.hid hk2; have HC2 := Lib.hid hc2; have HF2 := Lib.hid hF2; clear hk2 hc2 hF2) | fail)
          go_roundw
          case rel => exact ⟨k + 1, F2, by omega, by go_num, by rw [HT.out]; exact HC2.out, fun b h => (HF2.out b h).elim (HF.out b) (fun h => Nat.le_trans HBW.out.size h), HK2.out.behind HBW.out HBW.out.size (fun k hk h => by have := HF.out k h; omega), by rw [HC.out, if_pos HEZ.out]⟩
          case measure => simp [intOf]; omega
        · have te : (e != 0) = true := by simp [he]
          have HEZ := Lib.hid (show ¬ e = 0 from he)
          clear he
          go_wp2_with (first | ((with_reducible refine S.out.mono ?_); rintro e2 w2 ⟨rfl, hk2, F2, hc2, hF2⟩; have HK2 := Lib.hid hk2; clear hk2 hc2 hF2) | fail)
          go_ret2
          exact ret2 (by rw [HC.out, if_neg HEZ.out]) (HK2.out.behind HBW.out HBW.out.size (fun k hk h => by have := HF.out k h; omega))
      · have t1 := empty_no hfe
        have S := Lib.hid (step_hand x hfe p (l.take k) F _ HCX.out HKL.out)
        unfold Hd.cells at S
        clear hfe
        generalize stepE (l.take k) x = e at *
        by_cases he : e = 0
        · have te : (e != 0) = false := by simp [he]
          have HEZ := Lib.hid he
          clear he
          go_wp2_with (first | ((with_reducible refine S.out.mono ?_); rintro e2 w2 ⟨rfl, hk2, F2, hc2, hF2⟩; rw [doneB, if_pos HEZ.out] at hc2; have HK2 := Lib.hid hk2; have HC2 := Lib.hid hc2; have HF2 := Lib.hid hF2; clear hk2 hc2 hF2) | fail)
          go_roundw
          case rel => exact ⟨k + 1, F2, by omega, by go_num, by rw [HT.out]; exact HC2.out, fun b h => (HF2.out b h).elim (HF.out b) (fun h => Nat.le_trans HBW.out.size h), HK2.out.behind HBW.out HBW.out.size (fun k hk h => by have := HF.out k h; omega), by rw [HC.out, if_pos HEZ.out]⟩
          case measure => simp [intOf]; omega
        · have te : (e != 0) = true := by simp [he]
          have HEZ := Lib.hid (show ¬ e = 0 from he)
          clear he
          go_wp2_with (first | ((with_reducible refine S.out.mono ?_); rintro e2 w2 ⟨rfl, hk2, F2, hc2, hF2⟩; have HK2 := Lib.hid hk2; clear hk2 hc2 hF2) | fail)
          go_ret2
          exact ret2 (by rw [HC.out, if_neg HEZ.out]) (HK2.out.behind HBW.out HBW.out.size (fun k hk h => by have := HF.out k h; omega))
    · go_wp2_with fail
      go_ret2
      exact ret2 (by rw [hchk, List.drop_eq_nil_of_le (by omega), checkFrom]; congr; omega) hbel
end Go.Proofs.Ytmjblefjaccocaa.Sc
