/- The laws' deeds; whether they are too many. -/
import Derived.Test.YtnlfhncbnfmccaaStepPl26
import Derived.Test.YtnlfhncbnfmccaaLaw
import Derived.Deep.Strs
namespace Go.Proofs.Ytnlfhncbnfmccaa.Sc
open Go Go.RowKit Go.ChangeShapes Go.WideShapes Go.ChangeAt
set_option maxRecDepth 100000

def Dd.fit (d : Dd) : Prop := d.p.thing.size ≤ maxLen ∧ d.p.debtor.size ≤ maxLen ∧ d.p.cred.size ≤ maxLen
/-- An argument that is a slice of these. -/
theorem open_deeds {H : Type} {enc : TypeId × Value → H} {W : World} {base : Nat} {v : Value} {d : DataW H} {p : List MemPlace} (hv : Value.okWide Try.prog W .any base 22 v)
    (h : DataW.Trod enc Try.prog W 0 (fun _ => true) true 22 v d p) : ∃ l : List Dd, Sl W 8 v (l.map Dd.row) ∧ ∀ h ∈ l, h.fit := by
  obtain ⟨a, len, cap, rfl⟩ := okWide_slice Try.underlying22 hv
  obtain ⟨fuel, hf⟩ := h
  obtain ⟨rows, hs, _, hg⟩ := open_sl (sz := 8) (Good := fun cs => ∃ d : { d : Dd // d.fit }, cs = d.1.row) Try.underlying22 (by kernel_rfl) rfl hf (fun n cs y hy => by
    obtain ⟨y0, y1, y2, m0, _, hl, g0, hp, g7⟩ := Go.Deep.trod_struct3 Try.underlying40 hy
    have hl8 : cs.length = 8 := hl.trans (by kernel_rfl)
    have e0 : Try.prog.cellsOf 5 = 1 := by kernel_rfl
    have e1 : Try.prog.cellsOf 37 = 6 := by kernel_rfl
    have e2 : Try.prog.cellsOf 2 = 1 := by kernel_rfl
    match cs, hl8 with
    | [c0, c1, c2, c3, c4, c5, c6, c7], _ =>
      simp only [e0, e1, e2, List.drop_zero, List.drop_succ_cons, List.take_succ_cons, List.take_zero, List.take_nil] at g0 hp g7
      obtain ⟨-, m, hg⟩ := row_fields Try.underlying37 (by kernel_rfl) (by kernel_rfl) hp
      obtain ⟨s0, e0', _, _⟩ := DataW.trod_int Try.underlying5 g0
      obtain rfl : c0 = .int .u8 s0 := by simpa using e0'
      obtain ⟨z1, g1⟩ := hg 0 _ rfl c1 rfl
      obtain ⟨s1, e1', _, f1⟩ := DataW.trod_string Try.underlying9 g1
      obtain rfl : c1 = .string s1 := by simpa using e1'
      obtain ⟨z2, g2⟩ := hg 1 _ rfl c2 rfl
      obtain ⟨s2, e2', _, f2⟩ := DataW.trod_string Try.underlying9 g2
      obtain rfl : c2 = .string s2 := by simpa using e2'
      obtain ⟨z3, g3⟩ := hg 2 _ rfl c3 rfl
      obtain ⟨s3, e3', _, f3⟩ := DataW.trod_string Try.underlying9 g3
      obtain rfl : c3 = .string s3 := by simpa using e3'
      obtain ⟨z4, g4⟩ := hg 3 _ rfl c4 rfl
      obtain ⟨s4, e4', _, _⟩ := DataW.trod_int Try.underlying3 g4
      obtain rfl : c4 = .int .i64 s4 := by simpa using e4'
      obtain ⟨z5, g5⟩ := hg 4 _ rfl c5 rfl
      obtain ⟨s5, e5', _, _⟩ := DataW.trod_int Try.underlying2 g5
      obtain rfl : c5 = .int .i64 s5 := by simpa using e5'
      obtain ⟨z6, g6⟩ := hg 5 _ rfl c6 rfl
      obtain ⟨s6, e6', _⟩ := DataW.trod_bool Try.underlying4 g6
      obtain rfl : c6 = .bool s6 := by simpa using e6'
      obtain ⟨s7, e7', _, _⟩ := DataW.trod_int Try.underlying2 g7
      obtain rfl : c7 = .int .i64 s7 := by simpa using e7'
      exact ⟨⟨⟨s0, ⟨s1, s2, s3, s4, s5, s6⟩, s7⟩, f1, f2, f3⟩, rfl⟩) (by decide)
  obtain ⟨l, rfl⟩ := choose_map (f := fun d : { d : Dd // d.fit } => d.1.row) rows hg
  refine ⟨l.map Subtype.val, by simpa [List.map_map, Function.comp_def] using hs, fun h hh => ?_⟩
  obtain ⟨d, _, rfl⟩ := List.mem_map.1 hh
  exact d.2
def longD (d : Dd) : Bool := decide (100 < d.p.thing.size) || (decide (100 < d.p.debtor.size) || decide (100 < d.p.cred.size))
def heavyD (l : List Dd) (most : Int) : Bool := decide (most < (l.length : Int)) || l.any longD
set_option maxHeartbeats 2000000 in
theorem heavyD_any (l : List Dd) (most : Int) (v : Value) (w : World) (hs : Sl w 8 v (l.map Dd.row)) : Calls Try.prog 11 #[v, .int .i64 most] w (RetB w (heavyD l most)) := by
  have hml : l.length ≤ 9223372036854775807 := by have := hs.len_le; simpa [maxLen] using this
  obtain ⟨a, c, rfl⟩ : ∃ a c, v = .slice a l.length c := by simpa using hs.shape
  have HSL := Lib.hid hs
  clear hs
  by_cases hm : most < (l.length : Int)
  · have tm : decide (most < (l.length : Int)) = true := decide_eq_true hm
    have HM := Lib.hid hm
    clear hm
    go_enter Try.func11, Try.ntmps11
    go_wp2
    go_ret
    exact retB (by simp [heavyD, HM.out]) (Below.refl _ _)
  · have tm : decide (most < (l.length : Int)) = false := decide_eq_false hm
    have HM : Hid (heavyD l most = l.any longD) := Lib.hid (by rw [heavyD, tm, Bool.false_or])
    clear hm
    go_enter Try.func11, Try.ntmps11
    go_wp2
    clear tm
    go_loop [5] (fun i => ∃ k : Nat, k ≤ l.length ∧ i = .int .i64 k ∧ heavyD l most = (l.drop k).any longD) (fun i => l.length - (intOf i).toNat)
    case atStart => exact ⟨0, Nat.zero_le _, rfl, HM.out⟩
    case round =>
      obtain ⟨k, hk, rfl, hrel⟩ := hrel
      by_cases hlt : k < l.length
      · obtain ⟨b, off, rfl, -, hb, hc⟩ := HSL.out.at (i := k) (by simpa using hlt)
        have d1 : w.cell? ⟨b, off + k * 8 + 1, none⟩ = some (.string l[k].p.thing) := hc k l[k].row (by simp [hlt]) 1 _ rfl
        have d2 : w.cell? ⟨b, off + k * 8 + 1 + 1, none⟩ = some (.string l[k].p.debtor) := hc k l[k].row (by simp [hlt]) 2 _ rfl
        have d3 : w.cell? ⟨b, off + k * 8 + 1 + 2, none⟩ = some (.string l[k].p.cred) := hc k l[k].row (by simp [hlt]) 3 _ rfl
        rw [List.drop_eq_getElem_cons hlt, List.any_cons, longD] at hrel
        have HR := Lib.hid hrel
        clear hrel hc
        generalize l[k].p.thing = s1 at *
        generalize l[k].p.debtor = s2 at *
        generalize l[k].p.cred = s3 at *
        by_cases h1 : 100 < s1.size
        · have HH := Lib.hid h1
          go_wp2
          go_ret
          exact retB (by rw [HR.out]; simp [HH.out]) (Below.refl _ _)
        by_cases h2 : 100 < s2.size
        · have HH := Lib.hid h2
          go_wp2
          go_ret
          exact retB (by rw [HR.out]; simp [HH.out]) (Below.refl _ _)
        by_cases h3 : 100 < s3.size
        · have HH := Lib.hid h3
          go_wp2
          go_ret
          exact retB (by rw [HR.out]; simp [HH.out]) (Below.refl _ _)
        · have HH := Lib.hid (show ¬ 100 < s1.size ∧ ¬ 100 < s2.size ∧ ¬ 100 < s3.size from ⟨h1, h2, h3⟩)
          go_wp2
          go_round
          case rel => exact ⟨k + 1, by omega, by go_num, by rw [HR.out, decide_eq_false HH.out.1, decide_eq_false HH.out.2.1, decide_eq_false HH.out.2.2]; simp⟩
          case measure => simp [intOf]; omega
      · have HR := Lib.hid hrel
        clear hrel
        go_wp2
        go_ret
        exact retB (by rw [HR.out, List.drop_eq_nil_of_le (by omega)]; rfl) (Below.refl _ _)
theorem heavyD_no {l : List Dd} {most : Int} (h : heavyD l most = false) : (l.length : Int) ≤ most ∧ ∀ d ∈ l, d.p.thing.size ≤ 100 ∧ d.p.debtor.size ≤ 100 ∧ d.p.cred.size ≤ 100 := by
  simp only [heavyD, longD, Bool.or_eq_false_iff, decide_eq_false_iff_not, List.any_eq_false, Bool.or_eq_true, decide_eq_true_eq] at h
  exact ⟨by omega, fun e he => by have := h.2 e he; omega⟩
end Go.Proofs.Ytnlfhncbnfmccaa.Sc
