/- The document's answer: Check. -/
import Derived.Test.YtmjblefjaccocaaRefC17
import Derived.StillTailTactics
namespace Go.Proofs.Ytmjblefjaccocaa.Sc
open Go Go.RowKit Go.ChangeShapes Go.WideShapes Go.ChangeAt

def checkFrom : List Hd → List Hd → Nat → Nat × Int
  | _, [], i => (i, 0)
  | done, h :: r, i => if stepE done h = 0 then checkFrom (done ++ [h]) r (i + 1) else (i, stepE done h)
def checkOf (l : List Hd) : Nat × Int := checkFrom [] l 0
def Ret2 (w : World) (r : Nat × Int) : Ending → World → Prop := Ret w (.tuple #[.int .i64 r.1, .int .i64 r.2])
theorem ret2 {w w' : World} {r : Nat × Int} {a : Nat} {b : Int} (h : (a, b) = r) (hb : Below w.heap.size w w') : Ret2 w r (.returned (.tuple #[.int .i64 a, .int .i64 b])) w' := by subst h; exact ⟨rfl, hb⟩
theorem hd_one5 (h : Hd) : ∀ u ∈ (#[.string h.box, .string h.frm, .string h.to, .string h.place, .int .i64 h.day] : Array Value).toList, u.oneCell' = true := hd_one h
theorem empty_yes {s : ByteArray} (h : s = ⟨#[]⟩) : s.toList.isEmpty = true := by subst h; rw [ByteArray.toList_eq]; rfl
theorem empty_no {s : ByteArray} (h : ¬ s = ⟨#[]⟩) : s.toList.isEmpty = false := by
  have := str_no h
  rw [ByteArray.toList_eq (bs := ⟨#[]⟩)] at this
  cases hs : s.toList with
  | nil => rw [hs] at this; exact absurd this (by decide)
  | cons a r => rfl

set_option maxRecDepth 5000 in
set_option maxHeartbeats 4000000 in
theorem refCheck_any (l : List Hd) (v : Value) (w : World) (hs : Sl w 5 v (l.map Hd.row)) (hlen : l.length ≤ 4000) (hfit : ∀ h ∈ l, h.fit) :
    Calls Try.prog 17 #[v] w (Ret2 w (checkOf l)) := by
  have hml : l.length ≤ 9223372036854775807 := by omega
  obtain ⟨a, c, rfl⟩ : ∃ a c, v = .slice a l.length c := by simpa using hs.shape
  have HSL := Lib.hid hs
  have HLEN := Lib.hid hlen
  have HFIT := Lib.hid hfit
  clear hs hlen hfit
  obtain ⟨i0, hi, hz, hsz, hby⟩ := info_parts infoHd
  have HI := Lib.hid (And.intro hi (And.intro hz (And.intro hsz hby)))
  clear hi hz hsz hby
  go_enter Try.func17, Try.ntmps17
  go_wp2_with fail
  go_loopw [4, 5, 6] (fun o i _ wr => ∃ k : Nat, k ≤ l.length ∧ i = .int .i64 k ∧ wr.ownsRow w.heap.size 41 5 o k (hdCells (l.take k)) ∧ Below w.heap.size w wr ∧ checkOf l = checkFrom (l.take k) (l.drop k) k) (fun _ i _ _ => l.length - (intOf i).toNat)
  case atStart => exact ⟨0, Nat.zero_le _, rfl, World.ownsRow_made w #[] 0 (Nat.le_refl _) (by simp [maxLen]) rfl, one_below _ _, rfl⟩
  case round =>
    obtain ⟨k, hk, rfl, hown, hbel, hchk⟩ := hrel
    have HOWN := Lib.hid hown
    have HBEL := Lib.hid hbel
    by_cases hlt : k < l.length
    · obtain ⟨b, off, rfl, -, hb, hc⟩ := HSL.out.at (i := k) (by simpa using hlt)
      have hr := hc k l[k].row (by simp [hlt])
      have d0 : wr.cell? ⟨b, off + k * 5, none⟩ = some (.string l[k].box) := (hbel.cell (p := ⟨b, off + k * 5, none⟩) hb).trans (hr 0 _ rfl)
      have d1 : wr.cell? ⟨b, off + k * 5 + 1, none⟩ = some (.string l[k].frm) := (hbel.cell (p := ⟨b, off + k * 5 + 1, none⟩) hb).trans (hr 1 _ rfl)
      have d2 : wr.cell? ⟨b, off + k * 5 + 2, none⟩ = some (.string l[k].to) := (hbel.cell (p := ⟨b, off + k * 5 + 2, none⟩) hb).trans (hr 2 _ rfl)
      have d3 : wr.cell? ⟨b, off + k * 5 + 3, none⟩ = some (.string l[k].place) := (hbel.cell (p := ⟨b, off + k * 5 + 3, none⟩) hb).trans (hr 3 _ rfl)
      have d4 : wr.cell? ⟨b, off + k * 5 + 4, none⟩ = some (.int .i64 l[k].day) := (hbel.cell (p := ⟨b, off + k * 5 + 4, none⟩) hb).trans (hr 4 _ rfl)
      have HR := Lib.hid hr
      have HB := Lib.hid hb
      have HT : Hid (hdCells (l.take (k + 1)) = hdCells (l.take k) ++ l[k].row) := Lib.hid (by rw [List.take_succ_eq_append_getElem hlt, hdCells_append]; simp [hdCells])
      have HC : Hid (checkOf l = if stepE (l.take k) l[k] = 0 then checkFrom (l.take (k + 1)) (l.drop (k + 1)) (k + 1) else (k, stepE (l.take k) l[k])) := Lib.hid (by
        rw [hchk, List.drop_eq_getElem_cons hlt, checkFrom, List.take_succ_eq_append_getElem hlt])
      have HF := Lib.hid (HFIT.out _ (List.getElem_mem hlt))
      have HD : Hid (Sl wr 5 _ ((l.take k).map Hd.row)) := Lib.hid (own_hands HOWN.out (by simp; omega))
      have HKL : Hid ((l.take k).length ≤ 4000) := Lib.hid (by have := HLEN.out; simp; omega)
      have HL : Hid (k + 1 ≤ maxLen ∧ (k + 1) * 72 ≤ 140737488355328 ∧ w.heap.size ≤ wr.heap.size) := Lib.hid (by have h1 := HLEN.out; have h2 := hbel.size; simp only [maxLen]; omega)
      clear hr hc hchk hown
      generalize l[k] = x at *
      by_cases hfe : x.frm = ⟨#[]⟩
      · have t1 := empty_yes hfe
        have HE : Hid (stepE (l.take k) x = beginE (has (l.take k) x.box) (boxesS (l.take k)).length x.box x.to x.place x.day) := Lib.hid (by rw [stepE, if_pos hfe])
        clear hfe
        go_wp2_with fail
        go_still_tail 21, (by kernel_rfl)
        change wpList _ _ _ _ _ wr.drew
        have HBD := Lib.hid ((Below.refl wr.heap.size wr).drew)
        have HOWN := Lib.hid (ownsRow_below HOWN.out HBD.out)
        have HBEL := Lib.hid (HBEL.out.trans (HBD.out.mono HBEL.out.size))
        have HD := Lib.hid (HD.out.below HBD.out (Nat.le_refl _))
        clear d0 d1 d2 d3 d4
        generalize wr.drew = wd at *
        have HCE : Hid (Calls Try.prog 29 #[u4, .string x.box, .string x.to, .string x.place, .int .i64 x.day] wd (RetI wd (stepE (l.take k) x))) := Lib.hid (by rw [HE.out]; exact refBegins_any (l.take k) x.box x.to x.place x.day _ _ HD.out HKL.out HF.out.1 HF.out.2.2.1 HF.out.2.2.2)
        generalize stepE (l.take k) x = e at *
        by_cases he : e = 0
        · have te : (e != 0) = false := by simp [he]
          have HEZ := Lib.hid he
          clear he
          go_wp2_with (first
            | ((with_reducible refine (HCE.out).mono ?_); rintro e w1 ⟨rfl, hb1⟩; have HBEL1 := Lib.hid (HBEL.out.trans (hb1.mono HBEL.out.size)); have HOWN1 := Lib.hid (ownsRow_below HOWN.out hb1); have hlb := HB.out; have HL1 : Hid (k + 1 ≤ maxLen ∧ (k + 1) * 72 ≤ 140737488355328 ∧ w.heap.size ≤ w1.heap.size) := Lib.hid ⟨HL.out.1, HL.out.2.1, HBEL1.out.size⟩;
               have d0 := (HBEL1.out.cell (p := ⟨b, off + k * 5, none⟩) HB.out).trans (HR.out 0 _ rfl); have d1 := (HBEL1.out.cell (p := ⟨b, off + k * 5 + 1, none⟩) HB.out).trans (HR.out 1 _ rfl); have d2 := (HBEL1.out.cell (p := ⟨b, off + k * 5 + 2, none⟩) HB.out).trans (HR.out 2 _ rfl); have d3 := (HBEL1.out.cell (p := ⟨b, off + k * 5 + 3, none⟩) HB.out).trans (HR.out 3 _ rfl); have d4 := (HBEL1.out.cell (p := ⟨b, off + k * 5 + 4, none⟩) HB.out).trans (HR.out 4 _ rfl); clear hb1)
            | (((with_reducible refine Any.wpl_push ?_ ?_ ?_ Try.underlying22 HI.out.1 HI.out.2.1 HI.out.2.2.1 HI.out.2.2.2 ?_ (by decide) ?_ (hd_one5 x) (HOWN1.out) HL1.out.1 HL1.out.2.1 HL1.out.2.2 ?_); rfl; rfl; rfl; rfl; rfl; intro v2 w2 hown2 hgrow2 hwho2); have HB2 := Lib.hid (push_below HBEL1.out HOWN1.out hgrow2); have HOWN2 := Lib.hid hown2; clear hown2 hgrow2 hwho2)
            | fail)
          go_roundw
          case rel => exact ⟨k + 1, by omega, by go_num, by rw [HT.out]; exact HOWN2.out, HB2.out, by rw [HC.out, if_pos HEZ.out]⟩
          case measure => simp [intOf]; omega
        · have te : (e != 0) = true := by simp [he]
          have HEZ := Lib.hid (show ¬ e = 0 from he)
          clear he
          go_wp2_with (first
            | ((with_reducible refine (HCE.out).mono ?_); rintro e w1 ⟨rfl, hb1⟩; have HBEL1 := Lib.hid (HBEL.out.trans (hb1.mono HBEL.out.size)); clear hb1)
            | fail)
          go_ret2
          exact ret2 (by rw [HC.out, if_neg HEZ.out]) HBEL1.out
      · have t1 := empty_no hfe
        have HE : Hid (stepE (l.take k) x = handE (ownOf (l.take k) x.box) x) := Lib.hid (by rw [stepE, if_neg hfe])
        clear hfe
        have HCE : Hid (Calls Try.prog 30 #[u4, .agg x.cells] wr (RetI wr (stepE (l.take k) x))) := Lib.hid (by rw [HE.out]; exact refHands_any (l.take k) x _ _ HD.out HKL.out HF.out)
        generalize stepE (l.take k) x = e at *
        by_cases he : e = 0
        · unfold Hd.cells at HCE
          have te : (e != 0) = false := by simp [he]
          have HEZ := Lib.hid he
          clear he
          go_wp2_with (first
            | ((with_reducible refine (HCE.out).mono ?_); rintro e w1 ⟨rfl, hb1⟩; have HBEL1 := Lib.hid (HBEL.out.trans (hb1.mono HBEL.out.size)); have HOWN1 := Lib.hid (ownsRow_below HOWN.out hb1); have hlb := HB.out; have HL1 : Hid (k + 1 ≤ maxLen ∧ (k + 1) * 72 ≤ 140737488355328 ∧ w.heap.size ≤ w1.heap.size) := Lib.hid ⟨HL.out.1, HL.out.2.1, HBEL1.out.size⟩;
               have d0 := (HBEL1.out.cell (p := ⟨b, off + k * 5, none⟩) HB.out).trans (HR.out 0 _ rfl); have d1 := (HBEL1.out.cell (p := ⟨b, off + k * 5 + 1, none⟩) HB.out).trans (HR.out 1 _ rfl); have d2 := (HBEL1.out.cell (p := ⟨b, off + k * 5 + 2, none⟩) HB.out).trans (HR.out 2 _ rfl); have d3 := (HBEL1.out.cell (p := ⟨b, off + k * 5 + 3, none⟩) HB.out).trans (HR.out 3 _ rfl); have d4 := (HBEL1.out.cell (p := ⟨b, off + k * 5 + 4, none⟩) HB.out).trans (HR.out 4 _ rfl); clear hb1)
            | (((with_reducible refine Any.wpl_push ?_ ?_ ?_ Try.underlying22 HI.out.1 HI.out.2.1 HI.out.2.2.1 HI.out.2.2.2 ?_ (by decide) ?_ (hd_one5 x) (HOWN1.out) HL1.out.1 HL1.out.2.1 HL1.out.2.2 ?_); rfl; rfl; rfl; rfl; rfl; intro v2 w2 hown2 hgrow2 hwho2); have HB2 := Lib.hid (push_below HBEL1.out HOWN1.out hgrow2); have HOWN2 := Lib.hid hown2; clear hown2 hgrow2 hwho2)
            | fail)
          go_roundw
          case rel => exact ⟨k + 1, by omega, by go_num, by rw [HT.out]; exact HOWN2.out, HB2.out, by rw [HC.out, if_pos HEZ.out]⟩
          case measure => simp [intOf]; omega
        · unfold Hd.cells at HCE
          have te : (e != 0) = true := by simp [he]
          have HEZ := Lib.hid (show ¬ e = 0 from he)
          clear he
          go_wp2_with (first
            | ((with_reducible refine (HCE.out).mono ?_); rintro e w1 ⟨rfl, hb1⟩; have HBEL1 := Lib.hid (HBEL.out.trans (hb1.mono HBEL.out.size)); clear hb1)
            | fail)
          go_ret2
          exact ret2 (by rw [HC.out, if_neg HEZ.out]) HBEL1.out
    · go_wp2_with fail
      go_ret2
      exact ret2 (by rw [hchk, List.drop_eq_nil_of_le (by omega), checkFrom]; congr; omega) hbel
end Go.Proofs.Ytmjblefjaccocaa.Sc
