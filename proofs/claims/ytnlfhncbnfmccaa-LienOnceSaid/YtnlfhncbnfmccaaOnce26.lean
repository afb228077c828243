/- One debtor, one holder: behind any deeds the pledges of a thing are of one debtor, of unlike creditors, at most one is held, and that stands first; the others stand by their days. No condition. -/
import Derived.Test.YtnlfhncbnfmccaaLawPl26
import Derived.Test.YtnlfhncbnfmccaaTerms26
import Derived.Test.YtnlfhncbnfmccaaAwake26
import Derived.Test.YtnlfhncbnfmccaaThings26
import Derived.Test.YtnlfhncbnfmccaaStrRows
import Derived.Deep.CutRange
namespace Go.Proofs.Ytnlfhncbnfmccaa.Sc
open Go Go.RowKit Go.ChangeShapes Go.WideShapes Go.ChangeAt
set_option maxRecDepth 100000
theorem rank_helds {l : List Pg} (h : LnOk l) (t : ByteArray) : (rankOf (ofT l t)).Pairwise fun x y => ¬ (x.held = true ∧ y.held = true) := by
  have h1 : (ofT l t).Pairwise fun x y => ¬ (x.held = true ∧ y.held = true) := by
    have h2 := h.helds.filter (p := fun x => decide (x.thing = t))
    refine List.Pairwise.imp_of_mem (fun {a b} ha hb hab => hab ?_) h2
    rw [(ofT_mem.1 ha).2, (ofT_mem.1 hb).2]
  exact ((rankOf_perm (ofT l t)).pairwise_iff (fun {a b} hab hba => hab ⟨hba.2, hba.1⟩)).2 h1
theorem rank_once {l : List Pg} (h : LnOk l) (t : ByteArray) {r : List Pg} (hr : r = rankOf (ofT l t)) :
    (∀ m (hm : m + 1 < r.length), r[m + 1].held = false ∧ r[m + 1].debtor = (r[0]'(by omega)).debtor ∧ (r[m].held = false → r[m].day ≤ r[m + 1].day)) ∧
    (∀ j k (hk : k < r.length) (hj : j < k), (r[j]'(by omega)).cred ≠ r[k].cred) := by
  have hasc : Asc (rankOf (ofT l t)) := desc_asc (rank_desc _)
  have hh := rank_helds h t
  have hn := rank_nodup h t
  have hmem : ∀ x ∈ rankOf (ofT l t), x ∈ l ∧ x.thing = t := fun x hx => ofT_mem.1 ((rankOf_perm _).mem_iff.1 hx)
  rw [← hr] at hasc hh hn hmem
  clear hr
  refine ⟨fun m hm => ⟨?_, ?_, fun h0 => ?_⟩, fun j k hk hj e => ?_⟩
  · cases hq : r[m + 1].held with
    | false => rfl
    | true =>
      have h1 := List.pairwise_iff_getElem.1 hasc 0 (m + 1) (by omega) hm (by omega)
      have h2 := List.pairwise_iff_getElem.1 hh 0 (m + 1) (by omega) hm (by omega)
      have h3 : (r[0]'(by omega)).held = true := by
        cases h4 : (r[0]'(by omega)).held with
        | true => rfl
        | false =>
          unfold less at h1
          rw [hq, h4] at h1
          simp at h1
      exact absurd ⟨h3, hq⟩ h2
  · have h1 := hmem _ (List.getElem_mem hm)
    have h2 := hmem _ (List.getElem_mem (show 0 < r.length by omega))
    exact h.one _ h1.1 _ h2.1 (by rw [h1.2, h2.2])
  · have h1 := List.pairwise_iff_getElem.1 hasc m (m + 1) (by omega) hm (by omega)
    unfold less at h1
    rw [h0] at h1
    cases hq : r[m + 1].held with
    | true => rw [hq] at h1; simp at h1
    | false =>
      rw [hq] at h1
      simp at h1
      omega
  · have h1 := List.pairwise_iff_getElem.1 hn j k (by simpa using Nat.lt_trans hj hk) (by simpa using hk) hj
    simp only [List.getElem_map] at h1
    exact h1 e
theorem shape_of {w : World} {B n sz : Nat} {e : TypeId} {v : Value} {xs : List Value} (h : w.ownsRow B e sz v n xs) : ∃ a c, v = .slice a n c := by
  rcases h.2 with ⟨rfl, h0⟩ | ⟨g, cap, cur, rfl, _⟩
  · subst h0; exact ⟨_, _, rfl⟩
  · exact ⟨_, _, rfl⟩
theorem st_at {w : World} {a : Option Addr} {n c : Nat} {l : List ByteArray} (h : Sl w 1 (.slice a n c) (l.map stRow)) {k : Nat} (hk : k < l.length) : ∃ b off, a = some ⟨b, off, none⟩ ∧ b < w.heap.size ∧ w.cell? ⟨b, off + k, none⟩ = some (.string l[k]) := by
  obtain ⟨b, off, e, -, hb, hc⟩ := h.at (i := k) (by simpa using hk)
  have hr := hc k (stRow l[k]) (by rw [List.getElem?_map, List.getElem?_eq_getElem hk]; rfl) 0 _ rfl
  rw [Nat.mul_one] at hr
  exact ⟨b, off, e, hb, hr⟩
end Go.Proofs.Ytnlfhncbnfmccaa.Sc
namespace Go.Proofs.Ytnlfhncbnfmccaa.lienOnce
open Go.ChangeShapes Go.WideShapes Go.ChangeAt Go.RowKit Go Sc Go.BigFrame
set_option maxRecDepth 100000
set_option maxHeartbeats 16000000 in
theorem walk (w : World) (l : List Dd) (vl : Value) (hsl : Sl w 8 vl (l.map Dd.row)) (_ : ∀ d ∈ l, d.fit)  :
    Calls Try.prog 7 #[vl] w (RetB w true) := by
  have HAW := Lib.hid (awake_any w)
  have HHV := Lib.hid (fun W (hW : Below w.heap.size w W) => heavyD_any l 30 vl W (hsl.below hW (Nat.le_refl _)))
  have HSL := Lib.hid hsl
  obtain ⟨L, hL⟩ : ∃ L, L = deeds l := ⟨_, rfl⟩
  have HLL := Lib.hid hL
  clear hsl hL
  go_enter Try.func7, Try.ntmps7
  go_wp2_with (first
    | ((with_reducible refine HAW.out.mono ?_); rintro e w1 ⟨rfl, hb1⟩; have HB := Lib.hid hb1; clear hb1)
    | fail)
  refine (HHV.out _ HB.out).mono ?_
  rintro e w2 ⟨rfl, hb2⟩
  have HB2 := Lib.hid (HB.out.trans (hb2.mono HB.out.size))
  clear hb2
  generalize hq : heavyD l 30 = q
  cases q with
  | true =>
    clear hq
    go_wp2_with fail
    go_ret
    exact ⟨rfl, HB2.out⟩
  | false =>
  have HNO := Lib.hid (heavyD_no hq)
  clear hq
  have HLK : Hid (LnOk L ∧ L.length ≤ 30) := Lib.hid (by
    have h1 := HNO.out.1
    have h2 := deeds_len l
    rw [HLL.out]
    exact ⟨deeds_ok l, by omega⟩)
  have HGR := Lib.hid (grown_any l vl w2 (HSL.out.below HB2.out (Nat.le_refl _)) (by have := HNO.out.1; omega) HNO.out.2)
  unfold GrownP at HGR
  rw [← HLL.out] at HGR
  go_wp2_with (first
    | ((with_reducible refine HGR.out.mono ?_); rintro e w3 ⟨F, bk, bm, vm, rfl, hx3, hs3, ho3, hF3, hb3⟩; have H3 := Lib.hid (And.intro hs3 (And.intro ho3 hF3)); have HX3 := Lib.hid hx3; have HB3 := Lib.hid (HB2.out.trans (hb3.mono HB2.out.size)); clear hs3 ho3 hF3 hb3 hx3
       have HTH := Lib.hid (things_any HX3.out HLK.out.1 (by have := HLK.out.2; omega)))
    | ((with_reducible refine HTH.out.mono ?_); rintro e w4 ⟨vt, rfl, hown4, hb4⟩
       obtain ⟨at4, ct4, rfl⟩ : ∃ a c, vt = .slice a (thR L).length c := shape_of hown4
       have HT4 := Lib.hid hown4; have HB4 := Lib.hid (HB3.out.trans (hb4.mono HB3.out.size)); have HX4 := Lib.hid (HX3.out.below hb4); clear hown4 hb4)
    | fail)
  have HTS := Lib.hid (own_strs HT4.out rfl)
  have htl : (thR L).length ≤ 9223372036854775807 := by have := thR_len L; have := HLK.out.2; omega
  go_loopw [7, 8, 9, 10] (fun i _ _ _ wr => ∃ k : Nat, k ≤ (thR L).length ∧ i = .int .i64 k ∧ Below w4.heap.size w4 wr) (fun i _ _ _ _ => (thR L).length - (intOf i).toNat)
  case atStart => exact ⟨0, Nat.zero_le _, rfl, Below.refl _ _⟩
  case round =>
    obtain ⟨k, hk, rfl, hbel⟩ := hrel
    have HBEL := Lib.hid hbel
    by_cases hlt : k < (thR L).length
    · have hki : ((k : Nat) : Int) < ((thR L).length : Int) := by omega
      have HKL := Lib.hid hlt
      obtain ⟨b, off, he, hb, hc0⟩ := st_at HTS.out hlt
      cases he
      have d0 := (hbel.cell (p := ⟨b, off + k, none⟩) hb).trans hc0
      have hne : ofT L (thR L)[k] ≠ [] := mem_thR.1 (List.getElem_mem hlt)
      have HRK := Lib.hid (rankX_any (HX4.out.below hbel) (thR L)[k] (by have := HLK.out.2; omega))
      have HRF := Lib.hid (rank_once HLK.out.1 (thR L)[k] rfl)
      have hrn : 0 < (rankOf (ofT L (thR L)[k])).length := by
        rcases Nat.eq_zero_or_pos (rankOf (ofT L (thR L)[k])).length with h | h
        · exact absurd (rank_none.1 h) hne
        · exact h
      have hrl : (rankOf (ofT L (thR L)[k])).length ≤ 9223372036854775807 := by rw [rank_len]; have := ofT_le L (thR L)[k]; have := HLK.out.2; omega
      generalize (thR L)[k] = t at *
      generalize rankOf (ofT L t) = r at *
      have tz : (((r.length : Nat) : Int) == 0) = false := by rw [beq_eq_false_iff_ne]; omega
      have HRN := Lib.hid hrn
      clear hbel hb hc0 hne hk hrn
      go_wp2_with (first
        | ((with_reducible refine HRK.out.mono ?_); rintro e w5 ⟨vr, rfl, hown5, hb5⟩
           obtain ⟨ar, cr, rfl⟩ : ∃ a c, vr = .slice a r.length c := shape_of hown5
           have HR := Lib.hid (own_pgs hown5 rfl); have HB5 := Lib.hid (HBEL.out.trans (hb5.mono HBEL.out.size)); clear hown5 hb5)
        | fail)
      clear d0 tz
      go_loopw [9, 10] (fun i _ wr => ∃ m : Nat, 1 ≤ m ∧ i = .int .i64 m ∧ (m ≤ r.length ∨ m = 1) ∧ Below w5.heap.size w5 wr) (fun i _ _ => r.length - (intOf i).toNat)
      case atStart => exact ⟨1, Nat.le_refl _, rfl, .inr rfl, Below.refl _ _⟩
      case round =>
        obtain ⟨m, hm1, rfl, hmr, hbel⟩ := hrel
        have HB6 := Lib.hid hbel
        by_cases hlm : m < r.length
        · have hmi : ((m : Nat) : Int) < (r.length : Int) := by omega
          have HML := Lib.hid hlm
          have hm1i : (1 : Int) ≤ (m : Int) := by omega
          obtain ⟨b2, off2, he2, hb2, hp2⟩ := pg_at HR.out hlm
          cases he2
          obtain ⟨n1, hn1⟩ : ∃ n1, n1 = m - 1 := ⟨_, rfl⟩
          have em : n1 + 1 = m := by omega
          have hn1l : n1 < r.length := by omega
          have h0l : 0 < r.length := by omega
          obtain ⟨b3, off3, he3, -, hp3⟩ := pg_at HR.out hn1l
          cases he3
          obtain ⟨b4, off4, he4, -, hp4⟩ := pg_at HR.out h0l
          cases he4
          rw [Nat.zero_mul, Nat.add_zero] at hp4
          have HPM := Lib.hid (fun W (hW : Below w5.heap.size w5 W) => And.intro (hp2.below hb2 hW) (And.intro (hp3.below hb2 hW) (hp4.below hb2 hW)))
          have hf := HRF.out.1 n1 (by omega)
          simp only [em] at hf
          obtain ⟨hq1, hq2, hq3⟩ := hf
          have HCR : Hid (∀ j (h : j < r.length), j < m → (r[j].cred.toList == r[m].cred.toList) = false) := Lib.hid (fun j h hj => by
            rw [str_beq]
            exact decide_eq_false (HRF.out.2 j m hlm hj))
          obtain ⟨⟨-, g1, g2, g3, -, g5⟩, ⟨-, -, -, f3, -, f5⟩, ⟨-, e1, -⟩⟩ := HPM.out wr hbel
          rw [hq1] at g5
          generalize r[m].day = y1 at *
          generalize r[n1].day = y0 at *
          generalize r[m].debtor = x1 at *
          generalize r[0].debtor = x0 at *
          subst hq2
          have hrd : (x1.toList != x1.toList) = false := by simp
          have hrd2 : (x1.toList == x1.toList) = true := by simp
          generalize r[n1].held = hh at *
          have hr0 : (0 : Int) < (r.length : Int) := by omega
          have hn0 : (n1 : Int) < (r.length : Int) := by omega
          have e9 : (m : Int) - 1 = (n1 : Int) := by omega
          have HCC : (hh = true) ∨ (hh = false ∧ decide (y1 < y0) = false ∧ decide (y0 > y1) = false) := by
            cases hh
            · have := hq3 rfl
              exact .inr ⟨rfl, decide_eq_false (by omega), decide_eq_false (by omega)⟩
            · exact .inl rfl
          have HEM := Lib.hid em
          clear hbel hp2 hp3 hp4 hq1 hq3 hmr em hn1
          rcases HCC with rfl | ⟨rfl, s1, s2⟩
          all_goals
            go_wp2_with fail
            go_quiet (fail)
            obtain ⟨w7, hw7⟩ : ∃ x, x = wr.drewN nq := ⟨_, rfl⟩
            have HB7 : Hid (Below w5.heap.size w5 w7) := Lib.hid (hw7 ▸ below_drewN HB6.out nq)
            rw [← hw7]
            clear hw7 g1 g2 g3 g5 f3 f5 e1 hrd hrd2
            go_wp2_with fail
            go_loopw [10] (fun i wr => ∃ q : Nat, q ≤ m ∧ i = .int .i64 q ∧ Below w5.heap.size w5 wr) (fun i _ => m - (intOf i).toNat)
            case atStart => exact ⟨0, Nat.zero_le _, rfl, HB7.out⟩
            case round =>
              obtain ⟨q, hq, rfl, hbel⟩ := hrel
              have HB8 := Lib.hid hbel
              by_cases hlq : q < m
              · have hqi : ((q : Nat) : Int) < (m : Int) := by omega
                have hqi2 : ((q : Nat) : Int) < ((m : Nat) : Int) := by omega
                have HQL := Lib.hid hlq
                have hqr : q < r.length := by have := HML.out; omega
                have hqz : (q : Int) < (r.length : Int) := by omega
                obtain ⟨b5, off5, he5, hb5, hp5⟩ := pg_at HR.out hqr
                cases he5
                obtain ⟨-, -, k2, -⟩ := hp5.below hb5 hbel
                obtain ⟨⟨-, -, g2, -⟩, -⟩ := HPM.out wr hbel
                have s9 := HCR.out q hqr hlq
                generalize r[q].cred = c1 at *
                generalize r[m].cred = c2 at *
                clear hp5 hbel hq
                go_wp2_with fail
                go_quiet (fail)
                go_wp2_with fail
                go_roundw
                case rel => exact ⟨q + 1, by have := HQL.out; omega, by go_num, below_drewN HB8.out nq⟩
                case measure => have := HQL.out; (simp [intOf]) <;> omega
              · have hqi : ¬ ((q : Nat) : Int) < (m : Int) := by omega
                have hqi2 : ¬ ((q : Nat) : Int) < ((m : Nat) : Int) := by omega
                clear hbel hlq hq
                go_wp2_with fail
                go_roundw
                case rel => exact ⟨m + 1, by omega, by go_num, by have := HML.out; omega, HB8.out⟩
                case measure => have := HML.out; (simp [intOf]) <;> omega
        · have hmi : ¬ ((m : Nat) : Int) < (r.length : Int) := by omega
          clear hbel hlm hmr
          go_wp2_with fail
          go_roundw
          case rel => exact ⟨k + 1, HKL.out, by go_num, HB5.out.trans (HB6.out.mono HB5.out.size)⟩
          case measure => have := HKL.out; (simp [intOf]) <;> omega
    · have hki : ¬ ((k : Nat) : Int) < ((thR L).length : Int) := by omega
      clear hbel hlt hk
      go_wp2_with fail
      go_ret
      exact ⟨rfl, HB4.out.trans (HBEL.out.mono HB4.out.size)⟩
theorem lifted (os : Os) (started : os.Started) (H : Type) (enc : TypeId × Value → H) :
    ReturnsInHanded {} Try.checked os 7 .any (Rows.lienOnceSpec.pre6 enc Try.prog Try.f7 Rows.lienOnceRow.domain false) (Rows.lienOnceSpec.post enc Try.prog Try.f7 false true false false) := by
  refine law_lifted os started (by kernel_rfl) Try.func7
    (ChangeSpec.witness6 (enc := enc) (C := Try.checked) false ⟨#[], #[.slice none 0 0], []⟩ 8 (by kernel_rfl) (by kernel_rfl) (by kernel_rfl) (by kernel_rfl))
    (by kernel_rfl) rfl rfl ?_ ?_
  · intro vs ds W p hA
    rw [Try.params7] at hA
    obtain ⟨v0, vs0, d0, ds0, p0, q0, rfl, rfl, rfl, h0, r0⟩ := trodAll_cons hA
    obtain ⟨rfl, rfl, rfl⟩ := trodAll_nil r0
    rfl
  · intro W base args ds p hval hA
    rw [Try.params7] at hA hval
    obtain ⟨v0, vs0, d0, ds0, p0, q0, hargs, rfl, rfl, h0, r0⟩ := trodAll_cons hA
    obtain ⟨rfl, rfl, rfl⟩ := trodAll_nil r0
    obtain rfl : args = #[v0] := by cases args; simp_all
    obtain ⟨l0, hs0, hf0⟩ := open_deeds (hval 0 22 v0 rfl rfl) h0
    exact walk W l0 v0 hs0 hf0

theorem over : Rows.lienOnceRow.holds Try.pinned (OpenSpec.ofChange Rows.lienOnceSpec) :=
  OpenClaim.holds_of_wide 7 Try.f7 rfl rfl rfl rfl rfl rfl rfl ⟨rfl, rfl, rfl, rfl, rfl⟩ rfl rfl rfl rfl rfl (by kernel_rfl) Try.func7 (by kernel_rfl)
    (of_decide_eq_true (by kernel_rfl)) (by unfold Func.isWrapper; rw [if_neg (by decide +kernel)]; exact ⟨rfl, rfl⟩)
    (fun os started H enc _ => lifted os started H enc)

/-- The statement. -/
theorem proved : Rows.LienOnceSaid := over
#print axioms proved
end Go.Proofs.Ytnlfhncbnfmccaa.lienOnce
