/- Two delays of one call are one of both's days; a voyage that is delayed may be just as it did. No condition. -/
import Derived.Test.YtbmjficiceiekaaDoorAwake16
import Derived.Test.YtbmjficiceiekaaDoorLawD16
import Derived.Test.YtbmjficiceiekaaDoorDel16
import Derived.Test.YtbmjficiceiekaaDoorAddPl16
import Derived.Test.YtbmjficiceiekaaDoorEq16
import Derived.Test.YtbmjficiceiekaaDoorFillR
namespace Go.Proofs.YtbmjficiceiekaaDoor.portAdds
open Go.ChangeShapes Go.WideShapes Go.ChangeAt Go.RowKit Go Sc
set_option maxRecDepth 100000

set_option maxHeartbeats 16000000 in
theorem walk (w : World) (hap : TabW w) (t : Vm) (hs0 : Sl w 4 t.val (t.calls.map Cl.row)) (hf0 : t.fit) (call : Int) (_ : (Lit.int .i64 call).wf = true) (a : Int) (hwa : (Lit.int .u8 a).wf = true) (b : Int) (hwb : (Lit.int .u8 b).wf = true) :
    Calls Tryd.prog 8 #[.agg #[.string t.ship, t.val], .int .i64 call, .int .u8 a, .int .u8 b] w (RetB w true) := by
  have ha : 0 ≤ a ∧ a ≤ 255 := (by
    have h : IntKind.u8.min ≤ a ∧ a ≤ IntKind.u8.max := by simpa [Lit.wf, IntKind.wrap] using hwa
    exact h)
  have hb : 0 ≤ b ∧ b ≤ 255 := (by
    have h : IntKind.u8.min ≤ b ∧ b ≤ IntKind.u8.max := by simpa [Lit.wf, IntKind.wrap] using hwb
    exact h)
  obtain ⟨s, v, l⟩ := t
  simp only at hs0 ⊢
  obtain ⟨av, c, rfl⟩ : ∃ a c, v = .slice a l.length c := by simpa using hs0.shape
  have HS := Lib.hid hs0
  have HAW := Lib.hid (fun W (hW : Below w.heap.size w W) => awake_any W (hap.below hW))
  have HX := Lib.hid (heap_alloc_new w (.cells #[.string s, .slice av l.length c] 32))
  have HB := Lib.hid (one_below w (.cells #[.string s, .slice av l.length c] 32))
  have hll : l.length ≤ 9223372036854775807 := by have := hs0.len_le; simp only [List.length_map, maxLen] at this; omega
  have y0 := cell_blk HX.out 0
  have y1 := cell_blk HX.out 1
  clear hap hs0 hwa hwb
  by_cases h70 : 70 < l.length
  · have t1 : decide ((70 : Int) < (l.length : Int)) = true := decide_eq_true (by omega)
    have t1' : decide (70 < l.length) = true := decide_eq_true h70
    clear h70
    go_enter Tryd.func8, Tryd.ntmps8
    go_wp2_with (first
      | ((with_reducible refine (HAW.out _ HB.out).mono ?_); rintro e wa ⟨rfl, hba⟩; have HB := Lib.hid (HB.out.trans (hba.mono HB.out.size)); have HX := Lib.hid (blk hba (lt_blk HX.out) HX.out); clear y0 y1; have y0 := cell_blk HX.out 0; have y1 := cell_blk HX.out 1; clear hba)
      | fail)
    go_ret
    exact ⟨rfl, HB.out⟩
  have t1 : decide ((70 : Int) < (l.length : Int)) = false := decide_eq_false (by omega)
  have t1' : decide (70 < l.length) = false := decide_eq_false h70
  have HL : Hid (l.length ≤ 4000) := Lib.hid (by omega)
  obtain ⟨ha0, ha1⟩ := ha
  obtain ⟨hb0, hb1⟩ := hb
  have HAB : Hid ((0 ≤ a ∧ a ≤ 255) ∧ (0 ≤ b ∧ b ≤ 255)) := Lib.hid ⟨⟨ha0, ha1⟩, ⟨hb0, hb1⟩⟩
  have HLA := Lib.hid (delay_len s l call a)
  clear h70
  go_enter Tryd.func8, Tryd.ntmps8
  go_wp2_with (first
    | ((with_reducible refine (HAW.out _ HB.out).mono ?_); rintro e w1 ⟨rfl, hba⟩; have HB := Lib.hid (HB.out.trans (hba.mono HB.out.size)); have HX := Lib.hid (blk hba (lt_blk HX.out) HX.out); clear y0 y1; have y0 := cell_blk HX.out 0; have y1 := cell_blk HX.out 1
       have HD1 := Lib.hid (delay_any s _ l call a _ (HS.out.below HB.out (Nat.le_refl _)) HL.out); clear hba)
    | ((with_reducible refine (HD1.out).mono ?_); rintro e w2 ⟨v2, rfl, ho2, hb2⟩; obtain ⟨a2, c2, rfl⟩ := Ord.row_slice ho2
       have HB := Lib.hid (HB.out.trans (hb2.mono HB.out.size)); have HX := Lib.hid (blk hb2 (lt_blk HX.out) HX.out)
       have HD2 := Lib.hid (delay_any s _ (delayR s l call a) call b _ (own_cls ho2 rfl) (by rw [HLA.out]; exact HL.out)); clear ho2 hb2 y0 y1 HD1)
    | ((with_reducible refine (HD2.out).mono ?_); rintro e w3 ⟨v3, rfl, ho3, hb3⟩; obtain ⟨a9, n9, c9, hv9, hn9⟩ : ∃ q n c, v3 = .slice q n c ∧ n = (delayR s (delayR s l call a) call b).length := by
         obtain ⟨x, y, h⟩ := Ord.row_slice ho3
         exact ⟨x, _, y, h, rfl⟩
       subst hv9; rw [← hn9] at ho3
       have HA3 := Lib.hid (one_below w3 (.cells #[.string s, .slice a9 n9 c9] 32)); have HO3 := Lib.hid (ownsRow_below ho3 HA3.out); have H9 := Lib.hid (heap_alloc_new w3 (.cells #[.string s, .slice a9 n9 c9] 32))
       have HB3 := Lib.hid (hb3.trans (HA3.out.mono hb3.size)); have HX3 := blk hb3 (lt_blk HX.out) HX.out; have y0 := cell_blk HX3 0; have y1 := cell_blk HX3 1; have l3 := lt_blk HX3; have HB := Lib.hid (HB.out.trans (HB3.out.mono HB.out.size)); have HX := Lib.hid (blk HB3.out (lt_blk HX.out) HX.out); have HN9 := Lib.hid hn9
       have HD4 := Lib.hid (delay_any s _ l call (a + b) _ (HS.out.below HB.out (Nat.le_refl _)) HL.out); clear ho3 hb3 HB3 HA3 HD2 hn9 HX3)
    | ((with_reducible refine (HD4.out).mono ?_); rintro e w4 ⟨v4, rfl, ho4, hb4⟩; obtain ⟨at10, n10, c10, hv10, hn10⟩ : ∃ q n c, v4 = .slice q n c ∧ n = (delayR s l call (a + b)).length := by
         obtain ⟨x, y, h⟩ := Ord.row_slice ho4
         exact ⟨x, _, y, h, rfl⟩
       subst hv10; rw [← hn10] at ho4
       have HA4 := Lib.hid (one_below w4 (.cells #[.string s, .slice at10 n10 c10] 32)); have HO4 := Lib.hid (ownsRow_below ho4 HA4.out); have HT := Lib.hid (heap_alloc_new w4 (.cells #[.string s, .slice at10 n10 c10] 32))
       have HB4 := Lib.hid (hb4.trans (HA4.out.mono hb4.size)); have HB := Lib.hid (HB.out.trans (HB4.out.mono HB.out.size)); have HX := Lib.hid (blk HB4.out (lt_blk HX.out) HX.out); have H9 := Lib.hid (blk HB4.out (lt_blk H9.out) H9.out); have HO3 := Lib.hid (ownsRow_below HO3.out HB4.out); have HN10 := Lib.hid hn10; clear ho4 hb4 HB4 HA4 HD4 hn10)
    | fail)
  obtain ⟨wr0, hwr0⟩ : ∃ w', w' = w4.alloc (.cells #[.string s, .slice at10 n10 c10] 32) := ⟨_, rfl⟩
  rw [← hwr0] at HO4 HT HB HX H9 HO3 ⊢
  obtain ⟨r, hr⟩ : ∃ r, r = mayV s l := ⟨_, rfl⟩
  have HM9 : Hid (∀ W, Below wr0.heap.size wr0 W → Calls Tryd.prog 21 #[.agg #[.string s, .slice a9 n9 c9]] W (RetB W r)) := Lib.hid (fun W hW => by
    have h := mayP_any s (.slice a9 n9 c9) (delayR s (delayR s l call a) call b) W ((own_cls HO3.out HN9.out).below hW (Nat.le_refl _))
    rw [delay_may, delay_may, ← hr] at h
    exact h)
  have HMT : Hid (∀ W, Below wr0.heap.size wr0 W → Calls Tryd.prog 21 #[.agg #[.string s, .slice at10 n10 c10]] W (RetB W r)) := Lib.hid (fun W hW => by
    have h := mayP_any s (.slice at10 n10 c10) (delayR s l call (a + b)) W ((own_cls HO4.out HN10.out).below hW (Nat.le_refl _))
    rw [delay_may, ← hr] at h
    exact h)
  have HMV : Hid (∀ W, Below wr0.heap.size wr0 W → Calls Tryd.prog 21 #[.agg #[.string s, .slice av l.length c]] W (RetB W r)) := Lib.hid (fun W hW => by
    have h := mayP_any s (.slice av l.length c) l W (HS.out.below (HB.out.trans (hW.mono HB.out.size)) (Nat.le_refl _))
    rw [← hr] at h
    exact h)
  clear hwr0 hr t1 t1' y0 y1 l3
  refine Any.region_lit (fun
    | 0 => Any.val (.agg #[.string s, .slice a9 n9 c9])
    | 1 => Any.val (.bool r)
    | 2 => Any.val (.agg #[.string s, .slice av l.length c])
    | 3 => Any.val (.bool r)
    | 4 => Any.val (.bool false)
    | 5 => Any.val (.bool false)
    | 6 => Any.val (.agg #[.string s, .slice at10 n10 c10])
    | 7 => Any.val (.bool r)
    | 8 => Any.val (.agg #[.string s, .slice av l.length c])
    | 9 => Any.val (.bool r)
    | 10 => Any.val (.bool false)
    | 11 => Any.val (.bool false)
    | _ => Any.idle) (by kernel_rfl) (by kernel_rfl) (by kernel_rfl) ?_ ?_ ?_
  · intro i _
    match i with
    | 0 => exact Any.lasts_val _
    | 1 => exact Any.lasts_val _
    | 2 => exact Any.lasts_val _
    | 3 => exact Any.lasts_val _
    | 4 => exact Any.lasts_val _
    | 5 => exact Any.lasts_val _
    | 6 => exact Any.lasts_val _
    | 7 => exact Any.lasts_val _
    | 8 => exact Any.lasts_val _
    | 9 => exact Any.lasts_val _
    | 10 => exact Any.lasts_val _
    | 11 => exact Any.lasts_val _
    | n + 12 => exact Any.lasts_idle
  · refine ⟨?_, ?_, ?_, ?_, ?_, ?_, ?_, ?_, ?_, ?_, ?_, ?_, trivial⟩
    · refine Any.owes_plain rfl fun ρ wo hs' hb hc' => ?_
      have h9 : ρ (.tmp 9) = .pointer (some ⟨w3.heap.size, 0, none⟩) := hs'.old' 9 (by kernel_rfl)
      have c0 := cell_blk (blk (below_undrew hb) (lt_blk H9.out) H9.out) 0
      have c1 := cell_blk (blk (below_undrew hb) (lt_blk H9.out) H9.out) 1
      go_simp
      exact Any.post_val hb rfl rfl
    · refine Any.owes_plain rfl fun ρ wo hs' hb hc' => ?_
      have h38 : ρ (.tmp 38) = .agg #[.string s, .slice a9 n9 c9] := hs'.new' 38 0 (by kernel_rfl)
      have hf := hs'.func 21
      go_simp
      exact (HM9.out wo (below_undrew hb)).mono fun e w' ⟨he, hb'⟩ => ⟨_, he, Any.post_vals hb rfl rfl hb'⟩
    · refine Any.owes_plain rfl fun ρ wo hs' hb hc' => ?_
      have h4 : ρ (.tmp 4) = .pointer (some ⟨w.heap.size, 0, none⟩) := hs'.old' 4 (by kernel_rfl)
      have c0 := cell_blk (blk (below_undrew hb) (lt_blk HX.out) HX.out) 0
      have c1 := cell_blk (blk (below_undrew hb) (lt_blk HX.out) HX.out) 1
      go_simp
      exact Any.post_val hb rfl rfl
    · refine Any.owes_plain rfl fun ρ wo hs' hb hc' => ?_
      have h40 : ρ (.tmp 40) = .agg #[.string s, .slice av l.length c] := hs'.new' 40 2 (by kernel_rfl)
      have hf := hs'.func 21
      go_simp
      exact (HMV.out wo (below_undrew hb)).mono fun e w' ⟨he, hb'⟩ => ⟨_, he, Any.post_vals hb rfl rfl hb'⟩
    · refine Any.owes_plain rfl fun ρ wo hs' hb hc' => ?_
      have h39 : ρ (.tmp 39) = .bool r := hs'.new' 39 1 (by kernel_rfl)
      have h41 : ρ (.tmp 41) = .bool r := hs'.new' 41 3 (by kernel_rfl)
      have t1 : (r != r) = false := by simp
      go_simp
      exact Any.post_val hb rfl rfl
    · refine Any.owes_plain rfl fun ρ wo hs' hb hc' => ?_
      have h42 : ρ (.tmp 42) = .bool false := hs'.new' 42 4 (by kernel_rfl)
      exact Any.ok_move (Any.post_val hb rfl h42)
    · refine Any.owes_on rfl rfl (by kernel_rfl) rfl fun ρ wo hs' hb hc' => ?_
      have h10 : ρ (.tmp 10) = .pointer (some ⟨w4.heap.size, 0, none⟩) := hs'.old' 10 (by kernel_rfl)
      have c0 := cell_blk (blk (below_undrew hb) (lt_blk HT.out) HT.out) 0
      have c1 := cell_blk (blk (below_undrew hb) (lt_blk HT.out) HT.out) 1
      go_simp
      exact Any.post_val hb rfl rfl
    · refine Any.owes_on rfl rfl (by kernel_rfl) rfl fun ρ wo hs' hb hc' => ?_
      have h44 : ρ (.tmp 44) = .agg #[.string s, .slice at10 n10 c10] := hs'.new' 44 6 (by kernel_rfl)
      have hf := hs'.func 21
      go_simp
      exact (HMT.out wo (below_undrew hb)).mono fun e w' ⟨he, hb'⟩ => ⟨_, he, Any.post_vals hb rfl rfl hb'⟩
    · refine Any.owes_on rfl rfl (by kernel_rfl) rfl fun ρ wo hs' hb hc' => ?_
      have h4 : ρ (.tmp 4) = .pointer (some ⟨w.heap.size, 0, none⟩) := hs'.old' 4 (by kernel_rfl)
      have c0 := cell_blk (blk (below_undrew hb) (lt_blk HX.out) HX.out) 0
      have c1 := cell_blk (blk (below_undrew hb) (lt_blk HX.out) HX.out) 1
      go_simp
      exact Any.post_val hb rfl rfl
    · refine Any.owes_on rfl rfl (by kernel_rfl) rfl fun ρ wo hs' hb hc' => ?_
      have h46 : ρ (.tmp 46) = .agg #[.string s, .slice av l.length c] := hs'.new' 46 8 (by kernel_rfl)
      have hf := hs'.func 21
      go_simp
      exact (HMV.out wo (below_undrew hb)).mono fun e w' ⟨he, hb'⟩ => ⟨_, he, Any.post_vals hb rfl rfl hb'⟩
    · refine Any.owes_on rfl rfl (by kernel_rfl) rfl fun ρ wo hs' hb hc' => ?_
      have h45 : ρ (.tmp 45) = .bool r := hs'.new' 45 7 (by kernel_rfl)
      have h47 : ρ (.tmp 47) = .bool r := hs'.new' 47 9 (by kernel_rfl)
      have t1 : (r != r) = false := by simp
      go_simp
      exact Any.post_val hb rfl rfl
    · refine Any.owes_plain rfl fun ρ wo hs' hb hc' => ?_
      have h43 : ρ (.tmp 43) = .bool false := hs'.new' 43 5 (by kernel_rfl)
      have h48 : ρ (.tmp 48) = .bool false := hs'.new' 48 10 (by kernel_rfl)
      go_simp
      exact Any.post_val hb rfl rfl
  intro vals w5 hb hk ha
  have h11 : vals 11 = .bool false := hk 11 (by kernel_rfl)
  have HBY := Lib.hid hb
  clear hk ha hb
  simp only [Any.putAll]
  go_frame
  simp only [Nat.zero_add, Nat.reduceAdd]
  rw [h11]
  clear h11
  have HX5 := Lib.hid (blk HBY.out (lt_blk HX.out) HX.out)
  have H95 := Lib.hid (blk HBY.out (lt_blk H9.out) H9.out)
  have HT5 := Lib.hid (blk HBY.out (lt_blk HT.out) HT.out)
  have HB5 := Lib.hid (HB.out.trans (HBY.out.mono HB.out.size))
  have HSM : Hid ((∀ x ∈ l, x.dep ≤ 1047976) → Calls Tryd.prog 15 #[.agg #[.string s, .slice a9 n9 c9], .agg #[.string s, .slice at10 n10 c10]] w5 (RetB w5 true)) := Lib.hid (fun hd => by
    have h := refSame_any s s (.slice a9 n9 c9) (.slice at10 n10 c10) (delayR s (delayR s l call a) call b) (delayR s l call (a + b)) w5 ((own_cls HO3.out HN9.out).below HBY.out (Nat.le_refl _)) ((own_cls HO4.out HN10.out).below HBY.out (Nat.le_refl _))
    rw [decide_eq_true (show s = s ∧ _ from ⟨rfl, delay_add HAB.out.1 HAB.out.2 hd⟩)] at h
    exact h)
  have y0 := cell_blk HX5.out 0
  have y1 := cell_blk HX5.out 1
  go_wp2_with fail
  go_loopw [53, 11] (fun n _ wr => wr = w5 ∧ ∃ k : Nat, k ≤ l.length ∧ n = .int .i64 k ∧ ∀ j (h : j < l.length), j < k → l[j].dep ≤ 1047976) (fun n _ _ => l.length - (intOf n).toNat)
  case atStart => exact ⟨rfl, 0, Nat.zero_le _, rfl, fun j _ h => absurd h (Nat.not_lt_zero _)⟩
  case round =>
    obtain ⟨rfl, k, hk, rfl, hall⟩ := hrel
    have HA := Lib.hid hall
    clear hall
    by_cases hlt : k < l.length
    · obtain ⟨bb, off, rfl, hbb, hp⟩ := cl_at HS.out hlt
      have d3 := (hp.below hbb HB5.out).2.2.2
      have hki : ((k : Nat) : Int) < (l.length : Int) := by omega
      have HKL := Lib.hid hlt
      have HNF : Hid (l[k].dep ≤ 1047976 → ∀ j (h : j < l.length), j < k + 1 → l[j].dep ≤ 1047976) := Lib.hid (fun hx j h hj => by
        rcases Nat.lt_or_ge j k with h2 | h2
        · exact HA.out j h h2
        · obtain rfl : j = k := by omega
          exact hx)
      generalize l[k] = y at *
      obtain ⟨xp, xu, xa, x⟩ := y
      simp only at d3 HNF
      clear hp hbb
      by_cases h1 : 1047976 < x
      · have t1 : decide (1047976 < x) = true := decide_eq_true h1
        clear h1
        go_wp2_with fail
        go_ret
        exact ⟨rfl, HB5.out⟩
      · have t1 : decide (1047976 < x) = false := decide_eq_false h1
        have HN := Lib.hid (HNF.out (by omega))
        clear h1
        by_cases h2 : x < 0
        · have t2 : decide (x < 0) = true := decide_eq_true h2
          clear h2
          go_wp2_with fail
          go_ret
          exact ⟨rfl, HB5.out⟩
        · have t2 : decide (x < 0) = false := decide_eq_false h2
          clear h2
          go_wp2_with fail
          go_roundw
          case rel => exact ⟨trivial, k + 1, HKL.out, by go_num, HN.out⟩
          case measure => have := HKL.out; (simp [intOf]) <;> omega
    · have HSY := Lib.hid (HSM.out (fun x hx => by
        obtain ⟨j, hj, rfl⟩ := List.getElem_of_mem hx
        exact HA.out j hj (by omega)))
      have hki : ¬ ((k : Nat) : Int) < (l.length : Int) := by omega
      have z90 := cell_blk H95.out 0
      have z91 := cell_blk H95.out 1
      have zt0 := cell_blk HT5.out 0
      have zt1 := cell_blk HT5.out 1
      go_wp2_with (first
        | ((with_reducible refine (HSY.out).mono ?_); rintro e w6 ⟨rfl, hb6⟩; have HB6 := Lib.hid (HB5.out.trans (hb6.mono HB5.out.size)); clear hb6)
        | fail)
      go_ret
      exact ⟨rfl, HB6.out⟩

theorem lifted (os : Os) (started : os.Started) (H : Type) (enc : TypeId × Value → H) :
    ReturnsInHanded {} Tryd.checked os 8 .any (fun w args => (Rows.portAddsSpec.pre enc Tryd.prog Tryd.f8 [] false w args ∧ laidMetH Tryd.prog laidA w) ∧ sizedMet enc Tryd.prog Tryd.f8 (OpenSpec.ofChange Rows.portAddsSpec) false w args) (Rows.portAddsSpec.post enc Tryd.prog Tryd.f8 false true false false) := by
  refine law_liftedD os started (by kernel_rfl) Tryd.func8
    (ChangeSpec.witness_shaped (enc := enc) (C := Tryd.checked) (os := os) (X := fun w _ => laidMetH Tryd.prog laidA w) false (World.doorLaid Tryd.prog 400 os) #[.agg #[.string ⟨#[]⟩, .slice none 0 0], .int .i64 0, .int .u8 0, .int .u8 0] 8 rfl (World.shaped_of_RefB (by kernel_rfl) (by kernel_rfl)) (by kernel_rfl) (by kernel_rfl) (by kernel_rfl) (door_met os _))
    (by kernel_rfl) rfl rfl ?_ ?_
  · intro vs ds W p hA
    rw [Tryd.params8] at hA
    obtain ⟨v0, vs0, d0, ds0, p0, q0, rfl, rfl, rfl, h0, r0⟩ := trodAll_cons hA
    obtain ⟨v1, vs1, d1, ds1, p1, q1, rfl, rfl, rfl, h1, r1⟩ := trodAll_cons r0
    obtain ⟨v2, vs2, d2, ds2, p2, q2, rfl, rfl, rfl, h2, r2⟩ := trodAll_cons r1
    obtain ⟨v3, vs3, d3, ds3, p3, q3, rfl, rfl, rfl, h3, r3⟩ := trodAll_cons r2
    obtain ⟨rfl, rfl, rfl⟩ := trodAll_nil r3
    rfl
  · intro W base args ds p hap hval hA
    rw [Tryd.params8] at hA hval
    obtain ⟨v0, vs0, d0, ds0, p0, q0, hargs, rfl, rfl, h0, r0⟩ := trodAll_cons hA
    obtain ⟨v1, vs1, d1, ds1, p1, q1, rfl, rfl, rfl, h1, r1⟩ := trodAll_cons r0
    obtain ⟨v2, vs2, d2, ds2, p2, q2, rfl, rfl, rfl, h2, r2⟩ := trodAll_cons r1
    obtain ⟨v3, vs3, d3, ds3, p3, q3, rfl, rfl, rfl, h3, r3⟩ := trodAll_cons r2
    obtain ⟨rfl, rfl, rfl⟩ := trodAll_nil r3
    obtain rfl : args = #[v0, v1, v2, v3] := by cases args; simp_all
    obtain ⟨t0, rfl, hs0, w0⟩ := open_voyage (hval 0 32 v0 rfl rfl) h0
    obtain ⟨a1, rfl, rfl, rfl, w1⟩ := open_int Tryd.underlying3 (hval 1 3 v1 rfl rfl) h1
    obtain ⟨a2, rfl, rfl, rfl, w2⟩ := open_int Tryd.underlying5 (hval 2 5 v2 rfl rfl) h2
    obtain ⟨a3, rfl, rfl, rfl, w3⟩ := open_int Tryd.underlying5 (hval 3 5 v3 rfl rfl) h3
    exact walk W hap t0 hs0 w0 a1 w1 a2 w2 a3 w3

theorem over : Rows.portAddsRow.holds Tryd.pinned (OpenSpec.ofChange Rows.portAddsSpec) :=
  OpenClaim.holds_of_wide 8 Tryd.f8 rfl rfl rfl rfl rfl rfl rfl ⟨rfl, rfl, rfl, rfl, rfl⟩ rfl rfl rfl rfl rfl (by kernel_rfl) Tryd.func8 (by kernel_rfl)
    (of_decide_eq_true (by kernel_rfl)) (by unfold Func.isWrapper; rw [if_neg (by decide +kernel)]; exact ⟨rfl, rfl⟩)
    (fun os started H enc _ => lifted os started H enc)

/-- The statement. -/
theorem proved : Rows.PortAddsCardSaid :=
  Claim7.holds_tied_plain_at .later [] [.data, .data, .data] true _ true
    over (fun _ h => by cases h) (by kernel_rfl) (fun _ h => by cases h) portAdds_row_tie rfl ⟨rfl, rfl⟩ (by kernel_rfl) rfl
    (fun f fn hf hfn => by
      obtain rfl : f = 8 := Option.some.inj (hf.symm.trans (by kernel_rfl))
      obtain rfl : fn = Tryd.f8 := (Option.some.inj (Tryd.func8.symm.trans hfn)).symm
      exact ⟨by kernel_rfl, fun j t ht => by
        have hall : (Tryd.f8.params.toList.all fun u => !Tryd.prog.wantsStandIn u) = true := by kernel_rfl
        have hm : t ∈ Tryd.f8.params.toList := by simpa using Array.mem_of_getElem? ht
        exact (show Tryd.prog.wantsStandIn t = false by simpa using List.all_eq_true.1 hall t hm)⟩)
    (by kernel_rfl)
#print axioms proved
end Go.Proofs.YtbmjficiceiekaaDoor.portAdds
