/- Arguments that are a lot, a box, boxes. -/
import Derived.Test.YtgnfdplphpejaaaGreatDoorFresh12
import Derived.Test.YtgnfdplphpejaaaGreatDoorRefJoin11
import Derived.Test.YtgnfdplphpejaaaGreatDoorBoxM12
import Derived.Test.YtgnfdplphpejaaaGreatDoorEq11
import Derived.Test.YtgnfdplphpejaaaGreatDoorLaw
import Derived.SizedLaws
namespace Go.Proofs.YtgnfdplphpejaaaGreatDoor.Sc
open Go Go.RowKit Go.ChangeShapes Go.WideShapes Go.ChangeAt
set_option maxRecDepth 100000

theorem refRoom_any (k : Int) (w : World) : Calls Tryz.prog 69 #[.int .i64 k] w (Ret w (.tuple #[.int .i64 (roomW k), .int .i64 (roomV k)])) := by
  have hv : roomW k = if k = 0 then 28000 else if k = 1 then 26000 else 0 := rfl
  have hu : roomV k = if k = 0 then 33000 else if k = 1 then 67000 else 0 := rfl
  by_cases h0 : k = 0
  · subst h0
    go_enter Tryz.func69, Tryz.ntmps69
    go_wp2
    go_ret2
    exact ⟨rfl, Below.refl _ _⟩
  · rw [if_neg h0] at hv hu
    have t0 : (k == 0) = false := by simp [h0]
    by_cases h1 : k = 1
    · subst h1
      go_enter Tryz.func69, Tryz.ntmps69
      go_wp2
      go_ret2
      exact ⟨rfl, Below.refl _ _⟩
    · rw [if_neg h1] at hv hu
      have t1 : (k == 1) = false := by simp [h1]
      have HV := Lib.hid (And.intro hv hu)
      clear h0 h1 hv hu
      go_enter Tryz.func69, Tryz.ntmps69
      go_wp2
      go_ret2
      exact ⟨by rw [HV.out.1, HV.out.2]; rfl, Below.refl _ _⟩
theorem sumC_lots {t : List Gd} {f : Gd → Int} {l : List Lt} (h : sumC t f l = 0) : lotsC t l = 0 := by
  unfold sumC at h
  split at h
  · assumption
  · exact h
/-- As the reference says it. -/
theorem goP_ref (t : List Gd) (k : Int) (l : List Lt) (n1 n2 : Int) (h1 : sumC t Gd.wt l = 0 → n1 = sumL t Gd.wt l) (h2 : sumC t Gd.vol l = 0 → n2 = sumL t Gd.vol l) (hk : kindOk k = true) :
    goP t k l = (decide (sumC t Gd.wt l = 0) && (decide (sumC t Gd.vol l = 0) && (decide (n1 ≤ roomW k) && (decide (n2 ≤ roomV k) && (decide (togC t l = 0) && decide ((joinL l).length ≤ 8)))))) := by
  rw [goP, hk, Bool.true_and, Bool.eq_iff_iff]
  simp only [Bool.and_eq_true, decide_eq_true_eq]
  have hr := room_le k
  constructor
  · rintro ⟨h3, h4, h5, h6, h7⟩
    have e1 : sumC t Gd.wt l = 0 := by rw [sumC, if_pos h3, if_neg (by omega)]
    have e2 : sumC t Gd.vol l = 0 := by rw [sumC, if_pos h3, if_neg (by omega)]
    exact ⟨e1, e2, by rw [h1 e1]; exact h4, by rw [h2 e2]; exact h5, h6, h7⟩
  · rintro ⟨e1, e2, h4, h5, h6, h7⟩
    exact ⟨sumC_lots e1, by rw [← h1 e1]; exact h4, by rw [← h2 e2]; exact h5, h6, h7⟩
set_option maxHeartbeats 4000000 in
theorem refGo_any (t : List Gd) (k : Int) (l : List Lt) (vt v : Value) (w : World) (hst : Sl w 4 vt (t.map Gd.row)) (hs : Sl w 2 v (l.map Lt.row)) (hf : ∀ x ∈ l, x.fit) (hl : l.length ≤ 41) (hc : ∀ x ∈ l, x.cnt ≤ 1099511627776) (hok : ∀ g ∈ t, gdOk g = true) :
    Calls Tryz.prog 38 #[vt, .int .i64 k, v] w (RetB w (goP t k l)) := by
  have HS1 := Lib.hid (fun W (hW : Below w.heap.size w W) => refWeight_any t l vt v W (hst.below hW (Nat.le_refl _)) (hs.below hW (Nat.le_refl _)) hf (by omega) hok)
  have HS2 := Lib.hid (fun W (hW : Below w.heap.size w W) => refVolume_any t l vt v W (hst.below hW (Nat.le_refl _)) (hs.below hW (Nat.le_refl _)) hf (by omega) hok)
  have HRM := Lib.hid (fun W => refRoom_any k W)
  have HTG := Lib.hid (fun W (hW : Below w.heap.size w W) => refTogether_any t l vt v W (hst.below hW (Nat.le_refl _)) (hs.below hW (Nat.le_refl _)) hf hok)
  have HJN := Lib.hid (fun W (hW : Below w.heap.size w W) => refJoin_any l v W (hs.below hW (Nat.le_refl _)) (by omega) hc)
  have HJL := joinL_length l
  by_cases hneg : k < 0
  · have t0 : decide (k < 0) = true := decide_eq_true hneg
    have HQ : Hid (goP t k l = false) := Lib.hid (by rw [goP, show kindOk k = false by unfold kindOk; rw [decide_eq_false (by omega), decide_eq_false (by omega)]; rfl, Bool.false_and])
    clear hst hs hf hl hc hok hneg
    go_enter Tryz.func38, Tryz.ntmps38
    go_wp2_with fail
    go_ret
    exact retB HQ.out.symm (Below.refl _ _)
  have t0 : decide (k < 0) = false := decide_eq_false hneg
  by_cases hbig : 1 < k
  · have t1 : decide (1 < k) = true := decide_eq_true hbig
    have HQ : Hid (goP t k l = false) := Lib.hid (by rw [goP, show kindOk k = false by unfold kindOk; rw [decide_eq_false (by omega), decide_eq_false (by omega)]; rfl, Bool.false_and])
    clear hst hs hf hl hc hok hneg hbig
    go_enter Tryz.func38, Tryz.ntmps38
    go_wp2_with fail
    go_ret
    exact retB HQ.out.symm (Below.refl _ _)
  have t1 : decide (1 < k) = false := decide_eq_false hbig
  have hkind : kindOk k = true := by
    have : k = 0 ∨ k = 1 := by omega
    rcases this with rfl | rfl <;> rfl
  obtain ⟨n1, hv1, hn1⟩ := sumV_is t Gd.wt l
  obtain ⟨n2, hv2, hn2⟩ := sumV_is t Gd.vol l
  have HQ := Lib.hid (goP_ref t k l n1 n2 hn1 hn2 hkind)
  rw [hv1] at HS1
  rw [hv2] at HS2
  have hl8 : (joinL l).length ≤ 41 := by omega
  clear hst hs hf hl hc hok hneg hbig hkind hv1 hv2 hn1 hn2 HJL
  obtain ⟨q1, hq1⟩ : ∃ q, q = sumC t Gd.wt l := ⟨_, rfl⟩
  obtain ⟨q2, hq2⟩ : ∃ q, q = sumC t Gd.vol l := ⟨_, rfl⟩
  obtain ⟨q3, hq3⟩ : ∃ q, q = togC t l := ⟨_, rfl⟩
  rw [← hq1] at HS1 HQ
  rw [← hq2] at HS2 HQ
  rw [← hq3] at HTG HQ
  clear hq1 hq2 hq3
  by_cases h1 : q1 = 0
  rotate_left
  · have t2 : (q1 == 0) = false := by simp [h1]
    have HR : Hid (goP t k l = false) := Lib.hid (by rw [HQ.out, decide_eq_false h1, Bool.false_and])
    clear h1 HQ
    go_enter Tryz.func38, Tryz.ntmps38
    go_wp2_with (first | ((with_reducible refine (HS1.out _ (Below.refl _ _)).mono ?_); rintro e w1 ⟨rfl, hb1⟩; have HB := Lib.hid hb1; clear hb1) | ((with_reducible refine (HS2.out _ HB.out).mono ?_); rintro e w2 ⟨rfl, hb2⟩; have HB := Lib.hid (HB.out.trans (hb2.mono HB.out.size)); clear hb2) | ((with_reducible refine (HRM.out _).mono ?_); rintro e w3 ⟨rfl, hb3⟩; have HB := Lib.hid (HB.out.trans (hb3.mono HB.out.size)); clear hb3) | fail)
    go_ret
    exact retB HR.out.symm HB.out
  have t2 : (q1 == 0) = true := by simp [h1]
  rw [decide_eq_true h1, Bool.true_and] at HQ
  by_cases h2 : q2 = 0
  rotate_left
  · have t3 : (q2 == 0) = false := by simp [h2]
    have HR : Hid (goP t k l = false) := Lib.hid (by rw [HQ.out, decide_eq_false h2, Bool.false_and])
    clear h1 h2 HQ
    go_enter Tryz.func38, Tryz.ntmps38
    go_wp2_with (first | ((with_reducible refine (HS1.out _ (Below.refl _ _)).mono ?_); rintro e w1 ⟨rfl, hb1⟩; have HB := Lib.hid hb1; clear hb1) | ((with_reducible refine (HS2.out _ HB.out).mono ?_); rintro e w2 ⟨rfl, hb2⟩; have HB := Lib.hid (HB.out.trans (hb2.mono HB.out.size)); clear hb2) | ((with_reducible refine (HRM.out _).mono ?_); rintro e w3 ⟨rfl, hb3⟩; have HB := Lib.hid (HB.out.trans (hb3.mono HB.out.size)); clear hb3) | fail)
    go_ret
    exact retB HR.out.symm HB.out
  have t3 : (q2 == 0) = true := by simp [h2]
  rw [decide_eq_true h2, Bool.true_and] at HQ
  clear h1 h2
  cases h3 : decide (n1 ≤ roomW k)
  · have HR : Hid (goP t k l = false) := Lib.hid (by rw [HQ.out, h3, Bool.false_and])
    clear HQ
    go_enter Tryz.func38, Tryz.ntmps38
    go_wp2_with (first | ((with_reducible refine (HS1.out _ (Below.refl _ _)).mono ?_); rintro e w1 ⟨rfl, hb1⟩; have HB := Lib.hid hb1; clear hb1) | ((with_reducible refine (HS2.out _ HB.out).mono ?_); rintro e w2 ⟨rfl, hb2⟩; have HB := Lib.hid (HB.out.trans (hb2.mono HB.out.size)); clear hb2) | ((with_reducible refine (HRM.out _).mono ?_); rintro e w3 ⟨rfl, hb3⟩; have HB := Lib.hid (HB.out.trans (hb3.mono HB.out.size)); clear hb3) | fail)
    go_ret
    exact retB HR.out.symm HB.out
  rw [h3, Bool.true_and] at HQ
  cases h4 : decide (n2 ≤ roomV k)
  · have HR : Hid (goP t k l = false) := Lib.hid (by rw [HQ.out, h4, Bool.false_and])
    clear HQ
    go_enter Tryz.func38, Tryz.ntmps38
    go_wp2_with (first | ((with_reducible refine (HS1.out _ (Below.refl _ _)).mono ?_); rintro e w1 ⟨rfl, hb1⟩; have HB := Lib.hid hb1; clear hb1) | ((with_reducible refine (HS2.out _ HB.out).mono ?_); rintro e w2 ⟨rfl, hb2⟩; have HB := Lib.hid (HB.out.trans (hb2.mono HB.out.size)); clear hb2) | ((with_reducible refine (HRM.out _).mono ?_); rintro e w3 ⟨rfl, hb3⟩; have HB := Lib.hid (HB.out.trans (hb3.mono HB.out.size)); clear hb3) | fail)
    go_ret
    exact retB HR.out.symm HB.out
  rw [h4, Bool.true_and] at HQ
  by_cases h5 : q3 = 0
  rotate_left
  · have t5 : (q3 == 0) = false := by simp [h5]
    have HR : Hid (goP t k l = false) := Lib.hid (by rw [HQ.out, decide_eq_false h5, Bool.false_and])
    clear h5 HQ
    go_enter Tryz.func38, Tryz.ntmps38
    go_wp2_with (first | ((with_reducible refine (HS1.out _ (Below.refl _ _)).mono ?_); rintro e w1 ⟨rfl, hb1⟩; have HB := Lib.hid hb1; clear hb1) | ((with_reducible refine (HS2.out _ HB.out).mono ?_); rintro e w2 ⟨rfl, hb2⟩; have HB := Lib.hid (HB.out.trans (hb2.mono HB.out.size)); clear hb2) | ((with_reducible refine (HRM.out _).mono ?_); rintro e w3 ⟨rfl, hb3⟩; have HB := Lib.hid (HB.out.trans (hb3.mono HB.out.size)); clear hb3) | ((with_reducible refine (HTG.out _ HB.out).mono ?_); rintro e w4 ⟨rfl, hb4⟩; have HB := Lib.hid (HB.out.trans (hb4.mono HB.out.size)); clear hb4) | fail)
    go_ret
    exact retB HR.out.symm HB.out
  have t5 : (q3 == 0) = true := by simp [h5]
  rw [decide_eq_true h5, Bool.true_and] at HQ
  clear h5
  generalize (joinL l).length = N at *
  cases h6 : decide (((N : Nat) : Int) ≤ 8)
  · have HR : Hid (goP t k l = false) := Lib.hid (by rw [HQ.out, decide_eq_false (by have := of_decide_eq_false h6; omega)])
    clear HQ
    go_enter Tryz.func38, Tryz.ntmps38
    go_wp2_with (first | ((with_reducible refine (HS1.out _ (Below.refl _ _)).mono ?_); rintro e w1 ⟨rfl, hb1⟩; have HB := Lib.hid hb1; clear hb1) | ((with_reducible refine (HS2.out _ HB.out).mono ?_); rintro e w2 ⟨rfl, hb2⟩; have HB := Lib.hid (HB.out.trans (hb2.mono HB.out.size)); clear hb2) | ((with_reducible refine (HRM.out _).mono ?_); rintro e w3 ⟨rfl, hb3⟩; have HB := Lib.hid (HB.out.trans (hb3.mono HB.out.size)); clear hb3) | ((with_reducible refine (HTG.out _ HB.out).mono ?_); rintro e w4 ⟨rfl, hb4⟩; have HB := Lib.hid (HB.out.trans (hb4.mono HB.out.size)); clear hb4) | ((with_reducible refine (HJN.out _ HB.out).mono ?_); rintro e w5 ⟨v5, rfl, ho5, hb5⟩; obtain ⟨a5, c5, rfl⟩ := Ord.row_slice ho5; have HB := Lib.hid (HB.out.trans (hb5.mono HB.out.size)); clear ho5 hb5) | fail)
    go_ret
    exact retB HR.out.symm HB.out
  · have HR : Hid (goP t k l = true) := Lib.hid (by rw [HQ.out, decide_eq_true (by have := of_decide_eq_true h6; omega)])
    clear HQ
    go_enter Tryz.func38, Tryz.ntmps38
    go_wp2_with (first | ((with_reducible refine (HS1.out _ (Below.refl _ _)).mono ?_); rintro e w1 ⟨rfl, hb1⟩; have HB := Lib.hid hb1; clear hb1) | ((with_reducible refine (HS2.out _ HB.out).mono ?_); rintro e w2 ⟨rfl, hb2⟩; have HB := Lib.hid (HB.out.trans (hb2.mono HB.out.size)); clear hb2) | ((with_reducible refine (HRM.out _).mono ?_); rintro e w3 ⟨rfl, hb3⟩; have HB := Lib.hid (HB.out.trans (hb3.mono HB.out.size)); clear hb3) | ((with_reducible refine (HTG.out _ HB.out).mono ?_); rintro e w4 ⟨rfl, hb4⟩; have HB := Lib.hid (HB.out.trans (hb4.mono HB.out.size)); clear hb4) | ((with_reducible refine (HJN.out _ HB.out).mono ?_); rintro e w5 ⟨v5, rfl, ho5, hb5⟩; obtain ⟨a5, c5, rfl⟩ := Ord.row_slice ho5; have HB := Lib.hid (HB.out.trans (hb5.mono HB.out.size)); clear ho5 hb5) | fail)
    go_ret
    exact retB HR.out.symm HB.out
end Go.Proofs.YtgnfdplphpejaaaGreatDoor.Sc
namespace Go.Proofs.YtgnfdplphpejaaaGreatDoor.Sc
open Go Go.RowKit Go.ChangeShapes Go.WideShapes Go.ChangeAt
set_option maxRecDepth 100000

def weiV (k n q : Int) : Value := if kindOk k = true then (if q = 0 then (if 1048576 < n then .tuple #[.int .i64 0, .int .i64 3] else .tuple #[.int .i64 n, .int .i64 0]) else .tuple #[.int .i64 0, .int .i64 q]) else .tuple #[.int .i64 0, .int .i64 1]
end Go.Proofs.YtgnfdplphpejaaaGreatDoor.Sc
namespace Go.Proofs.YtgnfdplphpejaaaGreatDoor.Sc
open Go Go.RowKit Go.ChangeShapes Go.WideShapes Go.ChangeAt Go.Deep
set_option maxRecDepth 100000

theorem slice_one {H : Type} {enc : TypeId × Value → H} {P : Program} {w : World} {base : Nat} {spare : Nat → Bool} {held : Bool} {t e : TypeId} {fuel : Nat} {c : Value} {x : DataW H × List MemPlace}
    (ht : P.underlying t = some (.slice e)) (h : DataW.trod enc P w base spare held fuel t [c] = some x) : c.cells.toList = [c] := by
  rcases open_slice ht h with ⟨h1, _⟩ | ⟨a, len, cap, m, n, D, Pl, h1, _⟩
  · obtain rfl : c = .slice none 0 0 := by simpa using h1
    rfl
  · obtain rfl : c = .slice (some a) len cap := by simpa using h1
    rfl
theorem lots_of {H : Type} {enc : TypeId × Value → H} {W : World} {base : Nat} {spare : Nat → Bool} {held : Bool} {fuel : Nat} {c : Value} {x : DataW H × List MemPlace}
    (h : DataW.trod enc Tryz.prog W base spare held fuel 23 [c] = some x) : ∃ l : List Lt, Sl W 2 c (l.map Lt.row) ∧ ∀ h ∈ l, h.fit := by
  have h1 := slice_one Tryz.underlying23 h
  rw [← h1] at h
  obtain ⟨rows, hs, _, hg⟩ := open_sl (sz := 2) (Good := fun cs => ∃ d : { d : Lt // d.fit }, cs = d.1.row) Tryz.underlying23 (by kernel_rfl) h1 h (fun n cs y hy => by
    obtain ⟨hl, m, hg⟩ := row_fields Tryz.underlying38 (by kernel_rfl) (by kernel_rfl) hy
    match cs, hl with
    | [c0, c1], _ =>
      obtain ⟨z0, g0⟩ := hg 0 _ rfl c0 rfl
      obtain ⟨s0, e0, _, f0⟩ := DataW.trod_string Tryz.underlying9 g0
      obtain rfl : c0 = .string s0 := by simpa using e0
      obtain ⟨z1, g1⟩ := hg 1 _ rfl c1 rfl
      obtain ⟨s1, e1, _, f1⟩ := DataW.trod_int Tryz.underlying3 g1
      obtain rfl : c1 = .int .i64 s1 := by simpa using e1
      exact ⟨⟨⟨s0, s1⟩, ⟨f0⟩⟩, rfl⟩) (by decide)
  obtain ⟨l, rfl⟩ := choose_map (f := fun d : { d : Lt // d.fit } => d.1.row) rows hg
  refine ⟨l.map Subtype.val, by simpa [List.map_map, Function.comp_def] using hs, fun h hh => ?_⟩
  obtain ⟨d, _, rfl⟩ := List.mem_map.1 hh
  exact d.2
theorem open_lot {H : Type} {enc : TypeId × Value → H} {W : World} {base : Nat} {v : Value} {d : DataW H} {p : List MemPlace} (hv : Value.okWide Tryz.prog W .any base 38 v)
    (h : DataW.Trod enc Tryz.prog W 0 (fun _ => true) true 38 v d p) : ∃ t : Lt, v = .agg #[.string t.good, .int .i64 t.cnt] ∧ t.fit := by
  obtain ⟨cs, rfl, hsz⟩ := okWide_struct Tryz.underlying38 hv
  obtain ⟨fuel, hf⟩ := h
  obtain ⟨hl, m, hg⟩ := row_fields Tryz.underlying38 (by kernel_rfl) (by kernel_rfl) hf
  obtain ⟨cs⟩ := cs
  simp only [Value.cells] at hl hg
  match cs, hl with
  | [c0, c1], _ =>
    obtain ⟨z0, g0⟩ := hg 0 _ rfl c0 rfl
    obtain ⟨s0, e0, _, f0⟩ := DataW.trod_string Tryz.underlying9 g0
    obtain rfl : c0 = .string s0 := by simpa using e0
    obtain ⟨z1, g1⟩ := hg 1 _ rfl c1 rfl
    obtain ⟨s1, e1, _, f1⟩ := DataW.trod_int Tryz.underlying3 g1
    obtain rfl : c1 = .int .i64 s1 := by simpa using e1
    exact ⟨⟨s0, s1⟩, rfl, ⟨f0⟩⟩
/-- Of a box: its texts are no longer than a text can be. -/
def Bv.fit (x : Bv) : Prop := x.b.mark.size ≤ 9223372036854775807 ∧ ∀ c ∈ x.b.lots, c.fit
theorem row_fields' {H : Type} {enc : TypeId × Value → H} {P : Program} {w : World} {base : Nat} {spare : Nat → Bool} {held : Bool} {e : TypeId} {fs : Array Field} {n : Nat} {cs : List Value} {y : DataW H × List MemPlace}
    (he : P.underlying e = some (.struct fs)) (hone : oneCellFields P fs = true) (hC : P.cellsOf e = fs.size) (h : DataW.trod enc P w base spare held n e cs = some y) :
    cs.length = fs.size ∧ ∃ (m : Nat) (xs : List (DataW H × List MemPlace)), y.1 = .agg (xs.map (·.1)) ∧ ∀ (i : Nat) (f : Field), fs[i]? = some f → ∀ (u : Value), cs[i]? = some u → ∃ z, xs[i]? = some z ∧ DataW.trod enc P w base spare held m f.type [u] = some z := by
  obtain ⟨xs, m, _, hx, hl, hxl, hg⟩ := DataW.trod_struct he h
  rw [hC] at hl
  refine ⟨hl, m, xs, by rw [hx], fun i f hf u hu => ?_⟩
  obtain ⟨ho, hk⟩ := hone_of hone i f hf
  have h1 := hg i f hf
  have hi : i < cs.length := (List.getElem?_eq_some_iff.1 hu).1
  rw [ho, hk, List.drop_eq_getElem_cons hi] at h1
  have hu' : cs[i] = u := (List.getElem?_eq_some_iff.1 hu).2
  rw [hu'] at h1
  have hxi : i < xs.length := by rw [hxl]; omega
  rw [List.getElem?_eq_getElem hxi] at h1 ⊢
  exact ⟨_, rfl, h1⟩
theorem bytesLot : Tryz.prog.bytesOf 38 = 24 := by kernel_rfl
theorem lots_sized {H : Type} {enc : TypeId × Value → H} {W : World} {base : Nat} {spare : Nat → Bool} {held : Bool} {fuel : Nat} {c : Value} {x : DataW H × List MemPlace} {l : List Lt}
    (h : DataW.trod enc Tryz.prog W base spare held fuel 23 [c] = some x) (hs : Sl W 2 c (l.map Lt.row)) (hz : ∀ n ∈ x.1.weights Tryz.prog 23, n ≤ reachBytes) : l.length * 24 ≤ reachBytes := by
  obtain ⟨a0, c0, hsh⟩ := hs.shape
  rw [List.length_map] at hsh
  rcases open_slice Tryz.underlying23 h with ⟨h1, _⟩ | ⟨a, len, cap, m, n, D, Pl, h1, -, -, -, -, hx, -⟩
  · obtain rfl : c = .slice none 0 0 := by simpa using h1
    have : l.length = 0 := by simp only [Value.slice.injEq] at hsh; exact hsh.2.1.symm
    omega
  · obtain rfl : c = .slice (some a) len cap := by simpa using h1
    obtain rfl : len = l.length := by simp only [Value.slice.injEq] at hsh; exact hsh.2.1
    have := hz ((l.length + (m - l.length)) * 24) (by rw [hx]; simp [DataW.weights, Tryz.underlying23, bytesLot])
    have h3 : l.length * 24 ≤ (l.length + (m - l.length)) * 24 := Nat.mul_le_mul_right _ (by omega)
    omega
theorem open_boxs {H : Type} {enc : TypeId × Value → H} {W : World} {base : Nat} {v : Value} {d : DataW H} {p : List MemPlace} (hv : Value.okWide Tryz.prog W .any base 45 v)
    (h : DataW.Trod enc Tryz.prog W 0 (fun _ => true) true 45 v d p) (hz : ∀ n ∈ d.weights Tryz.prog 45, n ≤ reachBytes) :
    ∃ t : Bv, v = .agg #[.string t.b.mark, .int .i64 t.b.kind, t.v] ∧ Sl W 2 t.v (t.b.lots.map Lt.row) ∧ t.fit ∧ t.b.lots.length * 24 ≤ reachBytes := by
  obtain ⟨cs, rfl, hsz⟩ := okWide_struct Tryz.underlying45 hv
  obtain ⟨fuel, hf⟩ := h
  obtain ⟨hl, m, xs, hd, hg⟩ := row_fields' Tryz.underlying45 (by kernel_rfl) (by kernel_rfl) hf
  obtain ⟨cs⟩ := cs
  simp only [Value.cells] at hl hg
  match cs, hl with
  | [c0, c1, c2], _ =>
    obtain ⟨z0, -, g0⟩ := hg 0 _ rfl c0 rfl
    obtain ⟨z1, -, g1⟩ := hg 1 _ rfl c1 rfl
    obtain ⟨z2, k2, g2⟩ := hg 2 _ rfl c2 rfl
    obtain ⟨s0, e0, _, f0⟩ := DataW.trod_string Tryz.underlying9 g0
    obtain rfl : c0 = .string s0 := by simpa using e0
    obtain ⟨s1, e1, _, f1⟩ := DataW.trod_int Tryz.underlying3 g1
    obtain rfl : c1 = .int .i64 s1 := by simpa using e1
    obtain ⟨l, h1, h2⟩ := lots_of g2
    refine ⟨⟨⟨s0, s1, l⟩, c2⟩, rfl, h1, ⟨f0, h2⟩, lots_sized g2 h1 fun n hn => hz n ?_⟩
    simp only at hd
    rw [hd, DataW.weights, Tryz.underlying45]
    exact DataW.weights_mem_each (j := 2) rfl (by rw [List.getElem?_map, k2]; rfl) n hn
theorem open_box {H : Type} {enc : TypeId × Value → H} {W : World} {base : Nat} {v : Value} {d : DataW H} {p : List MemPlace} (hv : Value.okWide Tryz.prog W .any base 45 v)
    (h : DataW.Trod enc Tryz.prog W 0 (fun _ => true) true 45 v d p) : ∃ t : Bv, v = .agg #[.string t.b.mark, .int .i64 t.b.kind, t.v] ∧ Sl W 2 t.v (t.b.lots.map Lt.row) ∧ t.fit := by
  obtain ⟨cs, rfl, hsz⟩ := okWide_struct Tryz.underlying45 hv
  obtain ⟨fuel, hf⟩ := h
  obtain ⟨hl, m, hg⟩ := row_fields Tryz.underlying45 (by kernel_rfl) (by kernel_rfl) hf
  obtain ⟨cs⟩ := cs
  simp only [Value.cells] at hl hg
  match cs, hl with
  | [c0, c1, c2], _ =>
    obtain ⟨z0, g0⟩ := hg 0 _ rfl c0 rfl
    obtain ⟨z1, g1⟩ := hg 1 _ rfl c1 rfl
    obtain ⟨z2, g2⟩ := hg 2 _ rfl c2 rfl
    obtain ⟨s0, e0, _, f0⟩ := DataW.trod_string Tryz.underlying9 g0
    obtain rfl : c0 = .string s0 := by simpa using e0
    obtain ⟨s1, e1, _, f1⟩ := DataW.trod_int Tryz.underlying3 g1
    obtain rfl : c1 = .int .i64 s1 := by simpa using e1
    obtain ⟨l, h1, h2⟩ := lots_of g2
    exact ⟨⟨⟨s0, s1, l⟩, c2⟩, rfl, h1, f0, h2⟩
/-- Any boxes as they lie in memory. -/
def BoxesAt (W : World) (v : Value) (l : List Bv) : Prop := Sl W 3 v (l.map Bv.cells) ∧ ∀ x ∈ l, Sl W 2 x.v (x.b.lots.map Lt.row)
theorem BoxesAt.below {W W' : World} {v : Value} {l : List Bv} (h : BoxesAt W v l) (hb : Below W.heap.size W W') : BoxesAt W' v l := ⟨h.1.below hb (Nat.le_refl _), fun x hx => (h.2 x hx).below hb (Nat.le_refl _)⟩
theorem open_boxes {H : Type} {enc : TypeId × Value → H} {W : World} {base : Nat} {v : Value} {d : DataW H} {p : List MemPlace} (hv : Value.okWide Tryz.prog W .any base 30 v)
    (h : DataW.Trod enc Tryz.prog W 0 (fun _ => true) true 30 v d p) : ∃ l : List Bv, BoxesAt W v l ∧ ∀ x ∈ l, x.fit := by
  obtain ⟨a, len, cap, rfl⟩ := okWide_slice Tryz.underlying30 hv
  obtain ⟨fuel, hf⟩ := h
  obtain ⟨rows, hs, _, hg⟩ := open_sl (sz := 3) (Good := fun cs => ∃ d : { d : Bv // Sl W 2 d.v (d.b.lots.map Lt.row) ∧ d.fit }, cs = d.1.cells) Tryz.underlying30 (by kernel_rfl) rfl hf (fun n cs y hy => by
    obtain ⟨hl, m, hg⟩ := row_fields Tryz.underlying45 (by kernel_rfl) (by kernel_rfl) hy
    match cs, hl with
    | [c0, c1, c2], _ =>
      obtain ⟨z0, g0⟩ := hg 0 _ rfl c0 rfl
      obtain ⟨z1, g1⟩ := hg 1 _ rfl c1 rfl
      obtain ⟨z2, g2⟩ := hg 2 _ rfl c2 rfl
      obtain ⟨s0, e0, _, f0⟩ := DataW.trod_string Tryz.underlying9 g0
      obtain rfl : c0 = .string s0 := by simpa using e0
      obtain ⟨s1, e1, _, f1⟩ := DataW.trod_int Tryz.underlying3 g1
      obtain rfl : c1 = .int .i64 s1 := by simpa using e1
      obtain ⟨l, h1, h2⟩ := lots_of g2
      exact ⟨⟨⟨⟨s0, s1, l⟩, c2⟩, h1, f0, h2⟩, rfl⟩) (by decide)
  obtain ⟨l, rfl⟩ := choose_map (f := fun d : { d : Bv // Sl W 2 d.v (d.b.lots.map Lt.row) ∧ d.fit } => d.1.cells) rows hg
  refine ⟨l.map Subtype.val, ⟨by simpa [List.map_map, Function.comp_def] using hs, fun x hx => ?_⟩, fun x hx => ?_⟩
  · obtain ⟨d, _, rfl⟩ := List.mem_map.1 hx
    exact d.2.1
  · obtain ⟨d, _, rfl⟩ := List.mem_map.1 hx
    exact d.2.2
end Go.Proofs.YtgnfdplphpejaaaGreatDoor.Sc
