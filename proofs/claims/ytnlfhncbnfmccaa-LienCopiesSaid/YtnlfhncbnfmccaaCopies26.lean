/- Each by itself: what is done to a copy isn't done to the one that it was made of, nor the other way round. No condition. -/
import Derived.Test.YtnlfhncbnfmccaaEven26
import Derived.Test.YtnlfhncbnfmccaaTerms26
import Derived.Test.YtnlfhncbnfmccaaCopy26
import Derived.StillTailTactics
namespace Go.Proofs.Ytnlfhncbnfmccaa.Sc
open Go Go.RowKit Go.ChangeShapes Go.WideShapes Go.ChangeAt
set_option maxRecDepth 100000
theorem fold_len : ∀ (ds : List Dd) (l : List Pg), (ds.foldl dstep l).length ≤ l.length + ds.length
  | [], l => by simp
  | d :: r, l => by
    have h1 := fold_len r (dstep l d)
    have h2 := dstep_len l d
    rw [List.foldl_cons, List.length_cons]
    omega
def relP (a : List Pg) (p : Pg) : List Pg := relL a p.thing p.cred
theorem mem_relF : ∀ (ps l : List Pg) (x : Pg), x ∈ ps.foldl relP l → x ∈ l ∧ ∀ p ∈ ps, isOf p.thing p.cred x = false
  | [], l, x, h => ⟨h, fun p hp => by cases hp⟩
  | p :: r, l, x, h => by
    rw [List.foldl_cons] at h
    obtain ⟨h1, h2⟩ := mem_relF r (relP l p) x h
    obtain ⟨h3, h4⟩ := List.mem_filter.1 h1
    refine ⟨h3, fun q hq => ?_⟩
    rcases List.mem_cons.1 hq with rfl | hq
    · simpa using h4
    · exact h2 q hq
theorem rel_all (l : List Pg) : l.foldl relP l = [] := by
  rcases List.eq_nil_or_concat (l.foldl relP l) with h | ⟨a, x, h⟩
  · exact h
  · have hx : x ∈ l.foldl relP l := by rw [h]; simp
    obtain ⟨h1, h2⟩ := mem_relF l l x hx
    have := h2 x h1
    simp [isOf] at this
theorem relF_len (ps l : List Pg) : (ps.foldl relP l).length ≤ l.length := by
  induction ps generalizing l with
  | nil => exact Nat.le_refl _
  | cons p r ih => exact Nat.le_trans (ih _) (List.length_filter_le _ _)
end Go.Proofs.Ytnlfhncbnfmccaa.Sc
namespace Go.Proofs.Ytnlfhncbnfmccaa.lienCopies
open Go.ChangeShapes Go.WideShapes Go.ChangeAt Go.RowKit Go Sc Go.BigFrame
set_option maxRecDepth 100000
set_option maxHeartbeats 16000000 in
theorem walk (w : World) (l : List Dd) (vl : Value) (hsl : Sl w 8 vl (l.map Dd.row)) (_ : ∀ d ∈ l, d.fit) (more : List Dd) (vo : Value) (hso : Sl w 8 vo (more.map Dd.row)) (_ : ∀ d ∈ more, d.fit) (t : ByteArray) (_ : t.size ≤ maxLen) (who : ByteArray) (_ : who.size ≤ maxLen) :
    Calls Try.prog 9 #[vl, vo, .string t, .string who] w (RetB w true) := by
  have HAW := Lib.hid (awake_any w)
  have HHV := Lib.hid (fun W (hW : Below w.heap.size w W) => heavyD_any l 16 vl W (hsl.below hW (Nat.le_refl _)))
  have HHO := Lib.hid (fun W (hW : Below w.heap.size w W) => heavyD_any more 8 vo W (hso.below hW (Nat.le_refl _)))
  obtain ⟨ao, co, rfl⟩ : ∃ a c, vo = .slice a more.length c := by simpa using hso.shape
  have HSL := Lib.hid hsl
  have HSO := Lib.hid hso
  obtain ⟨L, hL⟩ : ∃ L, L = deeds l := ⟨_, rfl⟩
  have HLL := Lib.hid hL
  clear hsl hso hL
  go_enter Try.func9, Try.ntmps9
  go_wp2_with (first
    | ((with_reducible refine HAW.out.mono ?_); rintro e w1 ⟨rfl, hb1⟩; have HB := Lib.hid hb1; clear hb1)
    | fail)
  refine (HHV.out _ HB.out).mono ?_
  rintro e w2 ⟨rfl, hb2⟩
  have HB2 := Lib.hid (HB.out.trans (hb2.mono HB.out.size))
  clear hb2
  generalize hq : heavyD l 16 = q
  cases q with
  | true =>
    clear hq
    go_wp2_with fail
    go_ret
    exact ⟨rfl, HB2.out⟩
  | false =>
  have HNO := Lib.hid (heavyD_no hq)
  clear hq
  go_wp2_with fail
  refine (HHO.out _ HB2.out).mono ?_
  rintro e w3 ⟨rfl, hb3⟩
  have HB3 := Lib.hid (HB2.out.trans (hb3.mono HB2.out.size))
  clear hb3
  generalize hq : heavyD more 8 = q
  cases q with
  | true =>
    clear hq
    go_wp2_with fail
    go_ret
    exact ⟨rfl, HB3.out⟩
  | false =>
  have HNP := Lib.hid (heavyD_no hq)
  have hml : more.length ≤ 8 := by have := HNP.out.1; omega
  clear hq
  by_cases c0 : 100 < t.size
  · go_wp2_with fail
    go_ret
    exact ⟨rfl, HB3.out⟩
  by_cases c1 : 100 < who.size
  · go_wp2_with fail
    go_ret
    exact ⟨rfl, HB3.out⟩
  have HLK : Hid (LnOk L ∧ L.length ≤ 16) := Lib.hid (by
    have h1 := HNO.out.1
    have h2 := deeds_len l
    rw [HLL.out]
    exact ⟨deeds_ok l, by omega⟩)
  have HGR := Lib.hid (grown_any l vl w3 (HSL.out.below HB3.out (Nat.le_refl _)) (by have := HNO.out.1; omega) HNO.out.2)
  unfold GrownP at HGR
  rw [← HLL.out] at HGR
  go_wp2_with (first
    | ((with_reducible refine HGR.out.mono ?_); rintro e w4 ⟨F, bk, bm, vm, rfl, hx4, hs4, ho4, hF4, hb4⟩; have HX4 := Lib.hid hx4; have HS4 := Lib.hid (And.intro hs4 ho4); have HB4 := Lib.hid (HB3.out.trans (hb4.mono HB3.out.size))
       obtain ⟨am, cm, rfl⟩ : ∃ a c, vm = .slice a L.length c := by simpa using hs4.shape
       have HCP := Lib.hid (copyX_any hx4 (by have := HLK.out.2; omega)); have HF4 := Lib.hid hF4; clear hx4 hs4 ho4 hF4 hb4)
    | ((with_reducible refine HCP.out.mono ?_); rintro e w5 ⟨G, bk2, bm2, rfl, hx5, hG5, hb5⟩; have HY5 := Lib.hid hx5; have HG5 := Lib.hid hG5; have HB45 := Lib.hid hb5; clear hx5 hG5 hb5)
    | fail)
  clear c0 c1
  have hll : L.length ≤ 9223372036854775807 := by have := HLK.out.2; omega
  go_loopw [13, 14, 15, 16] (fun n i _ _ wr => ∃ (k : Nat) (G : Nat → Prop) (vn : Value), k ≤ more.length ∧ i = .int .i64 k ∧ n = vn ∧ Lx wr G bk2 bm2 ((more.take k).foldl dstep L) ∧ Sl wr 6 vn (((more.take k).foldl dstep L).map Pg.row) ∧ (Off G vn ∨ (more.take k).foldl dstep L = []) ∧ (Off F vn ∨ (more.take k).foldl dstep L = []) ∧ (∀ j, G j → w4.heap.size ≤ j) ∧ Below w4.heap.size w4 wr) (fun _ i _ _ _ => more.length - (intOf i).toNat)
  case atStart => exact ⟨0, G, _, Nat.zero_le _, rfl, rfl, HY5.out, HS4.out.1.below HB45.out (Nat.le_refl _), off_more (F := fun _ => False) HS4.out.1 (.inl fun _ _ h => h) (fun k h => .inr (HG5.out k h)), HS4.out.2, HG5.out, HB45.out⟩
  case round =>
    obtain ⟨k, H, vn, hk, rfl, rfl, hx, hsm, hoff, hofF, hG, hbel⟩ := hrel
    by_cases hlt : k < more.length
    · obtain ⟨b, off, he, -, hb, hc⟩ := HSO.out.at (i := k) (by simpa using hlt)
      cases he
      have hbw : Below w.heap.size w wr := HB4.out.trans (hbel.mono HB4.out.size)
      have d0 := (hbw.cell (p := ⟨b, off + k * 8, none⟩) hb).trans (hc k (more[k].row) (by simp [hlt]) 0 _ rfl)
      have d1 := (hbw.cell (p := ⟨b, off + k * 8 + 1, none⟩) hb).trans (hc k (more[k].row) (by simp [hlt]) 1 _ rfl)
      have d2 := (hbw.cell (p := ⟨b, off + k * 8 + 2, none⟩) hb).trans (hc k (more[k].row) (by simp [hlt]) 2 _ rfl)
      have d3 := (hbw.cell (p := ⟨b, off + k * 8 + 3, none⟩) hb).trans (hc k (more[k].row) (by simp [hlt]) 3 _ rfl)
      have d4 := (hbw.cell (p := ⟨b, off + k * 8 + 4, none⟩) hb).trans (hc k (more[k].row) (by simp [hlt]) 4 _ rfl)
      have d5 := (hbw.cell (p := ⟨b, off + k * 8 + 5, none⟩) hb).trans (hc k (more[k].row) (by simp [hlt]) 5 _ rfl)
      have d6 := (hbw.cell (p := ⟨b, off + k * 8 + 6, none⟩) hb).trans (hc k (more[k].row) (by simp [hlt]) 6 _ rfl)
      have d7 := (hbw.cell (p := ⟨b, off + k * 8 + 7, none⟩) hb).trans (hc k (more[k].row) (by simp [hlt]) 7 _ rfl)
      have hfd := HNP.out.2 _ (List.getElem_mem hlt)
      have hkl : (more.take k).length ≤ 8 := by rw [List.length_take]; omega
      have HDN := Lib.hid (done_any (O := F) more[k] hx hsm hoff hofF (fun j hj => Nat.lt_of_lt_of_le (HX4.out.lt j hj) hbel.size) (foldl_ok _ _ HLK.out.1) (by have := fold_len (more.take k) L; have := HLK.out.2; omega) (by omega) (by omega) (by omega))
      have HNX : Hid ((more.take (k + 1)).foldl dstep L = dstep ((more.take k).foldl dstep L) more[k]) := Lib.hid (by rw [List.take_succ_eq_append_getElem hlt, List.foldl_append]; rfl)
      rw [← HNX.out] at HDN
      unfold Dd.cells at HDN
      have HR := Lib.hid (And.intro hG hbel)
      have hki : ((k : Nat) : Int) < (more.length : Int) := by omega
      have HKL := Lib.hid hlt
      clear hx hsm hoff hofF hG hbel hc hfd hbw hkl
      go_wp2_with (first
        | ((with_reducible refine HDN.out.mono ?_); rintro e w6 ⟨G', v2, rfl, hx2, hs2, ho2, hq2, hG2, hk2⟩; have H2 := Lib.hid (And.intro hx2 (And.intro hs2 (And.intro ho2 (And.intro hq2 (And.intro hG2 hk2))))); clear hx2 hs2 ho2 hq2 hG2 hk2)
        | fail)
      go_roundw
      case rel =>
        refine ⟨k + 1, G', v2, HKL.out, by go_num, rfl, H2.out.1, H2.out.2.1, H2.out.2.2.1, H2.out.2.2.2.1, fun j hj => ?_, ?_⟩
        · rcases H2.out.2.2.2.2.1 j hj with h | h
          · exact HR.out.1 j h
          · exact Nat.le_trans HR.out.2.size h
        · exact Keep.behind HR.out.2 H2.out.2.2.2.2.2 HR.out.2.size (fun j hj h => absurd (HR.out.1 j h) (by omega))
      case measure => have := HKL.out; (simp [intOf]) <;> omega
    · have hkl : more.take k = more := List.take_of_length_le (by omega)
      rw [hkl] at hx hsm hoff hofF
      have hki : ¬ ((k : Nat) : Int) < (more.length : Int) := by omega
      have HNL : Hid (LnOk (more.foldl dstep L) ∧ (more.foldl dstep L).length ≤ 39) := Lib.hid ⟨foldl_ok _ _ HLK.out.1, by have := fold_len more L; have := HLK.out.2; omega⟩
      generalize more.foldl dstep L = N at *
      have HY := Lib.hid hx
      have HN := Lib.hid (And.intro hsm hofF)
      have HGG : Hid (∀ j, H j → ¬ F j) := Lib.hid (fun j h h2 => by have := hG j h; have := HX4.out.lt j h2; omega)
      have HBR := Lib.hid hbel
      have HBW := Lib.hid (HB4.out.trans (hbel.mono HB4.out.size))
      have HE1 := Lib.hid (even_any (HX4.out.below hbel) HLK.out.1 (by have := HLK.out.2; omega) _ (HS4.out.1.below hbel (Nat.le_refl _)) t who)
      have HE2 := Lib.hid (fun W (hW : Below wr.heap.size wr W) => even_any (HY.out.below hW) HNL.out.1 HNL.out.2 _ (HN.out.1.below hW (Nat.le_refl _)) t who)
      clear hx hsm hoff hofF hG hbel hkl hk hlt
      go_wp2_with (first
        | ((with_reducible refine HE1.out.mono ?_); rintro e w7 ⟨rfl, hb7⟩; have HB7 := Lib.hid hb7; clear hb7)
        | ((with_reducible refine (HE2.out _ HB7.out).mono ?_); rintro e w8 ⟨rfl, hb8⟩; have HB8 := Lib.hid (HB7.out.trans (hb8.mono HB7.out.size)); clear hb8)
        | fail)
      have HB48 := Lib.hid (HBR.out.trans (HB8.out.mono HBR.out.size))
      go_loopw [17] (fun i ws => ∃ (k : Nat) (F' : Nat → Prop), k ≤ L.length ∧ i = .int .i64 k ∧ Lx ws F' bk bm ((L.take k).foldl relP L) ∧ (∀ j, F' j → F j ∨ w8.heap.size ≤ j) ∧ Keep F w8 ws) (fun i _ => L.length - (intOf i).toNat)
      case atStart => exact ⟨0, F, Nat.zero_le _, rfl, HX4.out.below HB48.out, fun _ h => .inl h, Keep.refl _ _⟩
      case round =>
        obtain ⟨k, F', hk, rfl, hx, hF', hkp⟩ := hrel
        have HKP := Lib.hid hkp
        have HFK := Lib.hid hF'
        have HXK := Lib.hid hx
        by_cases hlt : k < L.length
        · have hki : ((k : Nat) : Int) < (L.length : Int) := by omega
          have HKL := Lib.hid hlt
          have HSM := Lib.hid (fun W (hW : Keep F w8 W) => sl_keepP (HS4.out.1.below HB48.out (Nat.le_refl _)) hW HS4.out.2)
          obtain ⟨b, off, he, hb, hp⟩ := pg_at (HSM.out _ hkp) hlt
          cases he
          have hp2 := hp.below hb (Below.refl _ _).drew
          have HNX : Hid ((L.take (k + 1)).foldl relP L = relL ((L.take k).foldl relP L) L[k].thing L[k].cred) := Lib.hid (by rw [List.take_succ_eq_append_getElem hlt, List.foldl_append]; rfl)
          have HRL := Lib.hid (releaseX_any (hx.below (Below.refl _ _).drew) L[k].thing L[k].cred (by have := relF_len (L.take k) L; have := HLK.out.2; omega))
          rw [← HNX.out] at HRL
          generalize relC ((L.take k).foldl relP L) L[k].thing L[k].cred = rc at *
          obtain ⟨d0, -, d2, -⟩ := hp
          obtain ⟨e0, -, e2, -⟩ := hp2
          generalize L[k].thing = xt at *
          generalize L[k].cred = xc at *
          clear hx hF' hkp hb hk
          go_wp2_with fail
          go_still_tail 11, (by kernel_rfl)
          change wpList _ _ _ _ _ wr.drew
          obtain ⟨w9, hw9⟩ : ∃ x, x = wr.drew := ⟨_, rfl⟩
          have HK9 : Hid (Keep F w8 w9) := Lib.hid (hw9 ▸ HKP.out.trans (Keep.of_below (Below.refl _ _).drew) (fun _ _ h => h))
          rw [← hw9] at HRL e0 e2 ⊢
          clear hw9 d0 d2
          go_wp2_with (first
            | ((with_reducible refine HRL.out.mono ?_); rintro e w10 ⟨F2, rfl, hx2, hf2, hk2⟩; have H2 := Lib.hid (And.intro hx2 (And.intro hf2 hk2)); clear hx2 hf2 hk2)
            | fail)
          go_roundw
          case rel => exact ⟨k + 1, F2, HKL.out, by go_num, H2.out.1, fun j hj => (H2.out.2.1 j hj).elim (HFK.out j) (fun h => .inr (Nat.le_trans HK9.out.size h)), HK9.out.trans H2.out.2.2 (fun i hi h => (HFK.out i h).resolve_right (by omega))⟩
          case measure => have := HKL.out; (simp [intOf]) <;> omega
        · have hki : ¬ ((k : Nat) : Int) < (L.length : Int) := by omega
          have hkl : L.take k = L := List.take_of_length_le (by omega)
          rw [hkl, rel_all] at hx
          have HTH := Lib.hid (things_any hx lnOk_nil (Nat.zero_le _))
          rw [show thR [] = [] from rfl] at HTH
          have HE3 := Lib.hid (fun W (hW : Below wr.heap.size wr W) => even_any (((HY.out.below HB8.out).keep hkp HGG.out).below hW) HNL.out.1 HNL.out.2 _ ((sl_keepP (HN.out.1.below HB8.out (Nat.le_refl _)) hkp HN.out.2).below hW (Nat.le_refl _)) t who)
          have HBZ := Lib.hid (Keep.behind (HBW.out.trans (HB8.out.mono HBW.out.size)) hkp (Nat.le_trans HBW.out.size HB8.out.size) (fun j hj h => by have := HF4.out j h; have := HB3.out.size; omega))
          clear hx hF' hkp hkl hk hlt
          go_wp2_with (first
            | ((with_reducible refine HTH.out.mono ?_); rintro e w11 ⟨v11, rfl, ho11, hb11⟩; obtain ⟨a11, c11, rfl⟩ : ∃ a c, v11 = .slice a 0 c := shape_of ho11; have HB11 := Lib.hid hb11; clear ho11 hb11)
            | ((with_reducible refine (HE3.out _ HB11.out).mono ?_); rintro e w12 ⟨rfl, hb12⟩; have HB12 := Lib.hid (HB11.out.trans (hb12.mono HB11.out.size)); clear hb12)
            | fail)
          go_ret
          exact ⟨rfl, HBZ.out.trans (HB12.out.mono HBZ.out.size)⟩

theorem lifted (os : Os) (started : os.Started) (H : Type) (enc : TypeId × Value → H) :
    ReturnsInHanded {} Try.checked os 9 .any (Rows.lienCopiesSpec.pre6 enc Try.prog Try.f9 Rows.lienCopiesRow.domain false) (Rows.lienCopiesSpec.post enc Try.prog Try.f9 false true false false) := by
  refine law_lifted os started (by kernel_rfl) Try.func9
    (ChangeSpec.witness6 (enc := enc) (C := Try.checked) false ⟨#[], #[.slice none 0 0, .slice none 0 0, .string ⟨#[]⟩, .string ⟨#[]⟩], []⟩ 8 (by kernel_rfl) (by kernel_rfl) (by kernel_rfl) (by kernel_rfl))
    (by kernel_rfl) rfl rfl ?_ ?_
  · intro vs ds W p hA
    rw [Try.params9] at hA
    obtain ⟨v0, vs0, d0, ds0, p0, q0, rfl, rfl, rfl, h0, r0⟩ := trodAll_cons hA
    obtain ⟨v1, vs1, d1, ds1, p1, q1, rfl, rfl, rfl, h1, r1⟩ := trodAll_cons r0
    obtain ⟨v2, vs2, d2, ds2, p2, q2, rfl, rfl, rfl, h2, r2⟩ := trodAll_cons r1
    obtain ⟨v3, vs3, d3, ds3, p3, q3, rfl, rfl, rfl, h3, r3⟩ := trodAll_cons r2
    obtain ⟨rfl, rfl, rfl⟩ := trodAll_nil r3
    rfl
  · intro W base args ds p hval hA
    rw [Try.params9] at hA hval
    obtain ⟨v0, vs0, d0, ds0, p0, q0, hargs, rfl, rfl, h0, r0⟩ := trodAll_cons hA
    obtain ⟨v1, vs1, d1, ds1, p1, q1, rfl, rfl, rfl, h1, r1⟩ := trodAll_cons r0
    obtain ⟨v2, vs2, d2, ds2, p2, q2, rfl, rfl, rfl, h2, r2⟩ := trodAll_cons r1
    obtain ⟨v3, vs3, d3, ds3, p3, q3, rfl, rfl, rfl, h3, r3⟩ := trodAll_cons r2
    obtain ⟨rfl, rfl, rfl⟩ := trodAll_nil r3
    obtain rfl : args = #[v0, v1, v2, v3] := by cases args; simp_all
    obtain ⟨l0, hs0, hf0⟩ := open_deeds (hval 0 22 v0 rfl rfl) h0
    obtain ⟨l1, hs1, hf1⟩ := open_deeds (hval 1 22 v1 rfl rfl) h1
    obtain ⟨a2, rfl, rfl, rfl, w2⟩ := Go.ChangeMaps.open_string Try.underlying9 (hval 2 9 v2 rfl rfl) h2
    obtain ⟨a3, rfl, rfl, rfl, w3⟩ := Go.ChangeMaps.open_string Try.underlying9 (hval 3 9 v3 rfl rfl) h3
    exact walk W l0 v0 hs0 hf0 l1 v1 hs1 hf1 a2 w2 a3 w3

theorem over : Rows.lienCopiesRow.holds Try.pinned (OpenSpec.ofChange Rows.lienCopiesSpec) :=
  OpenClaim.holds_of_wide 9 Try.f9 rfl rfl rfl rfl rfl rfl rfl ⟨rfl, rfl, rfl, rfl, rfl⟩ rfl rfl rfl rfl rfl (by kernel_rfl) Try.func9 (by kernel_rfl)
    (of_decide_eq_true (by kernel_rfl)) (by unfold Func.isWrapper; rw [if_neg (by decide +kernel)]; exact ⟨rfl, rfl⟩)
    (fun os started H enc _ => lifted os started H enc)

/-- The statement. -/
theorem proved : Rows.LienCopiesSaid := over
#print axioms proved
end Go.Proofs.Ytnlfhncbnfmccaa.lienCopies
