/- Thing by thing. -/
import Derived.Test.YtnlfhncbnfmccaaLawPl26
import Derived.Test.YtnlfhncbnfmccaaTerms26
import Derived.Test.YtnlfhncbnfmccaaAwake26
namespace Go.Proofs.Ytnlfhncbnfmccaa.lienApart
open Go.ChangeShapes Go.WideShapes Go.ChangeAt Go.RowKit Go Sc
set_option maxRecDepth 100000

def ddCells (l : List Dd) : List Value := l.flatMap Dd.row
theorem ddCells_flat (l : List Dd) : ddCells l = (l.map Dd.row).flatten := by rw [ddCells, List.flatMap_def]
theorem dd_rows (l : List Dd) : ∀ r ∈ l.map Dd.row, r.length = 8 := by
  intro r hr
  obtain ⟨d, _, rfl⟩ := List.mem_map.1 hr
  rfl
theorem own_dds {w : World} {B n : Nat} {v : Value} {l : List Dd} (h : w.ownsRow B 40 8 v n (ddCells l)) (hn : n = l.length) : Sl w 8 v (l.map Dd.row) := by
  rw [ddCells_flat] at h
  exact own_sl h (by simpa using hn) (dd_rows l)
theorem dd_one (x : Dd) : ∀ u ∈ x.row, u.oneCell' = true := by
  intro u hu
  simp [Dd.row, Dd.cells] at hu
  rcases hu with rfl | rfl | rfl | rfl | rfl | rfl | rfl | rfl <;> rfl
theorem infoDd : (Try.prog.info? 40).map (fun i => (i.zero, i.size, i.bytes)) = some (some (.agg #[.int .u8 0, .string ⟨#[]⟩, .string ⟨#[]⟩, .string ⟨#[]⟩, .int .i64 0, .int .i64 0, .bool false, .int .i64 0]), 8, 88) := by kernel_rfl
theorem filter_nextD {l : List Dd} {k : Nat} (h : k < l.length) (f : Dd → Bool) : (l.take (k + 1)).filter f = if f l[k] = true then (l.take k).filter f ++ [l[k]] else (l.take k).filter f := by
  rw [List.take_succ_eq_append_getElem h, List.filter_append]
  by_cases hf : f l[k] = true
  · rw [if_pos hf]; simp [hf]
  · rw [if_neg hf]; simp [hf]
set_option maxHeartbeats 16000000 in
theorem walk (w : World) (l : List Dd) (vl : Value) (hsl : Sl w 8 vl (l.map Dd.row)) (_ : ∀ d ∈ l, d.fit) (t : ByteArray) (_ : t.size ≤ maxLen) :
    Calls Try.prog 4 #[vl, .string t] w (RetB w true) := by
  have HAW := Lib.hid (awake_any w)
  have HHV := Lib.hid (fun W (hW : Below w.heap.size w W) => heavyD_any l 20 vl W (hsl.below hW (Nat.le_refl _)))
  have HSL := Lib.hid hsl
  obtain ⟨L, hL⟩ : ∃ L, L = deeds l := ⟨_, rfl⟩
  have HLL := Lib.hid hL
  clear hsl hL
  go_enter Try.func4, Try.ntmps4
  go_wp2_with (first
    | ((with_reducible refine HAW.out.mono ?_); rintro e w1 ⟨rfl, hb1⟩; have HB := Lib.hid hb1; clear hb1)
    | fail)
  refine (HHV.out _ HB.out).mono ?_
  rintro e w2 ⟨rfl, hb2⟩
  have HB2 := Lib.hid (HB.out.trans (hb2.mono HB.out.size))
  clear hb2
  generalize hq : heavyD l 20 = q
  cases q with
  | true =>
    clear hq
    go_wp2_with fail
    go_ret
    exact ⟨rfl, HB2.out⟩
  | false =>
  have HNO := Lib.hid (heavyD_no hq)
  clear hq
  by_cases c0 : 100 < t.size
  · skip
    go_wp2_with fail
    go_ret
    exact ⟨rfl, HB2.out⟩
  skip
  have HC0 := Lib.hid c0
  have HLK : Hid (LnOk L ∧ L.length ≤ 20) := Lib.hid (by
    have h1 := HNO.out.1
    have h2 := deeds_len l
    rw [HLL.out]
    exact ⟨deeds_ok l, by omega⟩)
  have HGR := Lib.hid (grown_any l vl w2 (HSL.out.below HB2.out (Nat.le_refl _)) (by have := HNO.out.1; omega) HNO.out.2)
  unfold GrownP at HGR
  rw [← HLL.out] at HGR
  clear HC0
  obtain ⟨i0, hi, hz, hsz, hby⟩ := info_parts infoDd
  have HI := Lib.hid (And.intro hi (And.intro hz (And.intro hsz hby)))
  clear hi hz hsz hby
  obtain ⟨av, cv, rfl⟩ : ∃ a c, vl = .slice a l.length c := by simpa using HSL.out.shape
  have hll : l.length ≤ 9223372036854775807 := by have := HNO.out.1; omega
  obtain ⟨f, hf⟩ : ∃ f : Dd → Bool, f = fun d => decide (d.p.thing = t) := ⟨_, rfl⟩
  have HFF := Lib.hid hf
  go_wp2_with (first
    | ((with_reducible refine HGR.out.mono ?_); rintro e w3 ⟨F, bk, bm, vm, rfl, hx3, hs3, ho3, hF3, hb3⟩; have H3 := Lib.hid (And.intro hs3 (And.intro ho3 hF3)); have HX3 := Lib.hid hx3; have HB3 := Lib.hid (HB2.out.trans (hb3.mono HB2.out.size)); clear hs3 ho3 hF3 hb3 hx3
       skip)
    | fail)
  have HLL8 : Hid (l.length ≤ 20) := Lib.hid (by have := HNO.out.1; omega)
  clear hf
  go_loopw [8, 9] (fun o i wr => ∃ k : Nat, k ≤ l.length ∧ i = .int .i64 k ∧ wr.ownsRow w3.heap.size 40 8 o ((l.take k).filter f).length (ddCells ((l.take k).filter f)) ∧ Below w3.heap.size w3 wr) (fun _ i _ => l.length - (intOf i).toNat)
  case atStart => exact ⟨0, Nat.zero_le _, rfl, own_empty (Nat.le_refl _), one_below _ _⟩
  case round =>
    obtain ⟨k, hk, rfl, hown, hbel⟩ := hrel
    have HOWN := Lib.hid hown
    have HBEL := Lib.hid hbel
    by_cases hlt : k < l.length
    · obtain ⟨b, off, he, -, hb, hc⟩ := HSL.out.at (i := k) (by simpa using hlt)
      cases he
      have hbl := HB3.out.trans (hbel.mono HB3.out.size)
      have d0 := (hbl.cell (p := ⟨b, off + k * 8, none⟩) hb).trans (hc k (l[k].row) (by simp [hlt]) 0 _ rfl)
      have d1 := (hbl.cell (p := ⟨b, off + k * 8 + 1, none⟩) hb).trans (hc k (l[k].row) (by simp [hlt]) 1 _ rfl)
      have d2 := (hbl.cell (p := ⟨b, off + k * 8 + 2, none⟩) hb).trans (hc k (l[k].row) (by simp [hlt]) 2 _ rfl)
      have d3 := (hbl.cell (p := ⟨b, off + k * 8 + 3, none⟩) hb).trans (hc k (l[k].row) (by simp [hlt]) 3 _ rfl)
      have d4 := (hbl.cell (p := ⟨b, off + k * 8 + 4, none⟩) hb).trans (hc k (l[k].row) (by simp [hlt]) 4 _ rfl)
      have d5 := (hbl.cell (p := ⟨b, off + k * 8 + 5, none⟩) hb).trans (hc k (l[k].row) (by simp [hlt]) 5 _ rfl)
      have d6 := (hbl.cell (p := ⟨b, off + k * 8 + 6, none⟩) hb).trans (hc k (l[k].row) (by simp [hlt]) 6 _ rfl)
      have d7 := (hbl.cell (p := ⟨b, off + k * 8 + 7, none⟩) hb).trans (hc k (l[k].row) (by simp [hlt]) 7 _ rfl)
      have d2' : wr.cell? ⟨b, off + k * 8 + 1 + 1, none⟩ = some (.string l[k].p.debtor) := d2
      have HFS := Lib.hid (filter_nextD hlt f)
      have HLE : Hid (((l.take k).filter f).length ≤ 4000) := Lib.hid (by
        have h1 := List.length_filter_le f (l.take k)
        have h2 := List.length_take_le k l
        have := HLL8.out
        omega)
      have tk : ((k : Nat) : Int) < (l.length : Int) := by omega
      have hff : f l[k] = decide (l[k].p.thing = t) := by rw [HFF.out]
      generalize (l.take k).filter f = D at *
      generalize l[k] = x at *
      have HPO := Lib.hid (dd_one x)
      obtain ⟨kd, ⟨xt, xd, xc, xy, xa, xh⟩, sm⟩ := x
      simp only [Dd.cells, Dd.row] at d0 d1 d2 d3 d4 d5 d6 d7 HPO hff
      have s2 := str_beq xt t
      generalize decide (xt = t) = q2 at *
      have HL : Hid (D.length + 1 ≤ maxLen ∧ (D.length + 1) * 88 ≤ 140737488355328 ∧ w3.heap.size ≤ wr.heap.size) := Lib.hid (by have := HLE.out; have := hbel.size; simp only [maxLen]; omega)
      clear hb hbel hown hbl hc d2'
      cases q2
      · have HF := Lib.hid (show ¬ f ⟨kd, ⟨xt, xd, xc, xy, xa, xh⟩, sm⟩ = true by rw [hff]; decide)
        clear hff
        go_wp2_with fail
        go_roundw
        case rel => exact ⟨k + 1, by omega, by go_num, by rw [HFS.out, if_neg HF.out]; exact HOWN.out, HBEL.out⟩
        case measure => (simp [intOf]) <;> omega
      · have HF := Lib.hid (show f ⟨kd, ⟨xt, xd, xc, xy, xa, xh⟩, sm⟩ = true by rw [hff])
        clear hff
        go_wp2_with (first
          | (((with_reducible refine Any.wpl_push ?_ ?_ ?_ Try.underlying22 HI.out.1 HI.out.2.1 HI.out.2.2.1 HI.out.2.2.2 ?_ (by decide) ?_ (HPO.out) (HOWN.out) HL.out.1 HL.out.2.1 HL.out.2.2 ?_); rfl; rfl; rfl; rfl; rfl; intro v5 w5 hown5 hgrow5 hwho5); have HO5 := Lib.hid hown5; have HB5 := Lib.hid (HBEL.out.grown hgrow5 HBEL.out.size (fun k hk => (HOWN.out.lt k hk).1)); clear hown5 hgrow5 hwho5)
          | fail)
        go_roundw
        case rel => exact ⟨k + 1, by omega, by go_num, by
          have := HO5.out
          rw [HFS.out, if_pos HF.out]
          simpa [ddCells, Dd.row, Dd.cells] using this, HB5.out⟩
        case measure => (simp [intOf]) <;> omega
    · rw [List.take_of_length_le (by omega)] at hown
      have HO := Lib.hid (own_dds hown rfl)
      obtain ⟨O, hO⟩ : ∃ O, O = l.filter f := ⟨_, rfl⟩
      have HOO := Lib.hid hO
      rw [← hO] at HO
      have hOl : O.length ≤ 20 := by have := HLL8.out; have := List.length_filter_le f l; rw [hO]; omega
      have HG2 := Lib.hid (grown_any O u8 wr HO.out hOl (fun d hd => HNO.out.2 d (List.mem_filter.1 (hO ▸ hd)).1))
      have HX4 := Lib.hid (HX3.out.below hbel)
      have HB4 := Lib.hid (HB3.out.trans (hbel.mono HB3.out.size))
      have HOF : Hid (ofT (deeds O) t = ofT L t) := Lib.hid (by rw [HOO.out, HFF.out, HLL.out]; exact own_apart l t (by have := HLL8.out; omega))
      have HOL : Hid ((deeds O).length ≤ 20) := Lib.hid (Nat.le_trans (deeds_len O) hOl)
      obtain ⟨M, hM⟩ : ∃ M, M = deeds O := ⟨_, rfl⟩
      unfold GrownP at HG2
      rw [← hM] at HG2 HOF HOL
      clear hown hbel hO hk HOWN hOl hM HO
      go_wp2_with (first
        | ((with_reducible refine HG2.out.mono ?_); rintro e w5 ⟨G, ck, cm, vn, rfl, hx5, -, -, -, hb5⟩; have HX5 := Lib.hid hx5; have HX5' := Lib.hid (HX4.out.below hb5); have HB5 := Lib.hid (HB4.out.trans (hb5.mono HB4.out.size)); have HRA := Lib.hid (rankX_any HX5'.out t HLK.out.2); clear hx5 hb5)
        | ((with_reducible refine HRA.out.mono ?_); rintro e w6 ⟨v6, rfl, hown6, hb6⟩
           have HS6 := Lib.hid (own_pgs hown6 rfl); have HX6 := Lib.hid (HX5.out.below hb6); have HX6' := Lib.hid (HX5'.out.below hb6); have HB6 := Lib.hid (HB5.out.trans (hb6.mono HB5.out.size))
           have HRB := Lib.hid (rankX_any HX6.out t HOL.out); rw [HOF.out] at HRB; clear hown6 hb6)
        | ((with_reducible refine HRB.out.mono ?_); rintro e w7 ⟨v7, rfl, hown7, hb7⟩
           have HS7 := Lib.hid (own_pgs hown7 rfl); have HX7 := Lib.hid (HX6.out.below hb7); have HX7' := Lib.hid (HX6'.out.below hb7); have HB7 := Lib.hid (HB6.out.trans (hb7.mono HB6.out.size))
           have HSM := Lib.hid (refSameP_any _ _ _ _ w7 (HS6.out.below hb7 (Nat.le_refl _)) HS7.out); rw [decide_eq_true (rfl : rankOf (ofT L t) = rankOf (ofT L t))] at HSM; clear hown7 hb7)
        | ((with_reducible refine HSM.out.mono ?_); rintro e w8 ⟨rfl, hb8⟩
           have HX8 := Lib.hid (HX7.out.below hb8); have HX8' := Lib.hid (HX7'.out.below hb8); have HB8 := Lib.hid (HB7.out.trans (hb8.mono HB7.out.size))
           have HFA := Lib.hid (freeX_any HX8'.out t); have HFB := Lib.hid (fun W (hW : Below w8.heap.size w8 W) => freeX_any (HX8.out.below hW) t); rw [HOF.out] at HFB; clear hb8
           generalize decide ((ofT L t).length = 0) = q9 at HFA HFB)
        | ((with_reducible refine HFA.out.mono ?_); rintro e w9 ⟨rfl, hb9⟩; have HB9 := Lib.hid hb9; clear hb9)
        | ((with_reducible refine (HFB.out _ HB9.out).mono ?_); rintro e w10 ⟨rfl, hb10⟩; have HB10 := Lib.hid hb10; clear hb10)
        | fail)
      go_ret
      exact ⟨by simp, HB8.out.trans ((HB9.out.trans (HB10.out.mono HB9.out.size)).mono HB8.out.size)⟩
theorem lifted (os : Os) (started : os.Started) (H : Type) (enc : TypeId × Value → H) :
    ReturnsInHanded {} Try.checked os 4 .any (Rows.lienApartSpec.pre6 enc Try.prog Try.f4 Rows.lienApartRow.domain false) (Rows.lienApartSpec.post enc Try.prog Try.f4 false true false false) := by
  refine law_lifted os started (by kernel_rfl) Try.func4
    (ChangeSpec.witness6 (enc := enc) (C := Try.checked) false ⟨#[], #[.slice none 0 0, .string ⟨#[]⟩], []⟩ 8 (by kernel_rfl) (by kernel_rfl) (by kernel_rfl) (by kernel_rfl))
    (by kernel_rfl) rfl rfl ?_ ?_
  · intro vs ds W p hA
    rw [Try.params4] at hA
    obtain ⟨v0, vs0, d0, ds0, p0, q0, rfl, rfl, rfl, h0, r0⟩ := trodAll_cons hA
    obtain ⟨v1, vs1, d1, ds1, p1, q1, rfl, rfl, rfl, h1, r1⟩ := trodAll_cons r0
    obtain ⟨rfl, rfl, rfl⟩ := trodAll_nil r1
    rfl
  · intro W base args ds p hval hA
    rw [Try.params4] at hA hval
    obtain ⟨v0, vs0, d0, ds0, p0, q0, hargs, rfl, rfl, h0, r0⟩ := trodAll_cons hA
    obtain ⟨v1, vs1, d1, ds1, p1, q1, rfl, rfl, rfl, h1, r1⟩ := trodAll_cons r0
    obtain ⟨rfl, rfl, rfl⟩ := trodAll_nil r1
    obtain rfl : args = #[v0, v1] := by cases args; simp_all
    obtain ⟨l0, hs0, hf0⟩ := open_deeds (hval 0 22 v0 rfl rfl) h0
    obtain ⟨a1, rfl, rfl, rfl, w1⟩ := Go.ChangeMaps.open_string Try.underlying9 (hval 1 9 v1 rfl rfl) h1
    exact walk W l0 v0 hs0 hf0 a1 w1

theorem over : Rows.lienApartRow.holds Try.pinned (OpenSpec.ofChange Rows.lienApartSpec) :=
  OpenClaim.holds_of_wide 4 Try.f4 rfl rfl rfl rfl rfl rfl rfl ⟨rfl, rfl, rfl, rfl, rfl⟩ rfl rfl rfl rfl rfl (by kernel_rfl) Try.func4 (by kernel_rfl)
    (of_decide_eq_true (by kernel_rfl)) (by unfold Func.isWrapper; rw [if_neg (by decide +kernel)]; exact ⟨rfl, rfl⟩)
    (fun os started H enc _ => lifted os started H enc)

/-- The statement. -/
theorem proved : Rows.LienApartSaid := over
#print axioms proved
end Go.Proofs.Ytnlfhncbnfmccaa.lienApart
