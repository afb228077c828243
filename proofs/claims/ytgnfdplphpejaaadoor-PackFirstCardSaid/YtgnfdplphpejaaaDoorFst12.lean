/- PackFirst: no room is left ahead. -/
import Derived.Test.YtgnfdplphpejaaaDoorAwPk12
namespace Go.Proofs.YtgnfdplphpejaaaDoor.packFirst
open Go.ChangeShapes Go.WideShapes Go.ChangeAt Go.RowKit Go Sc
set_option maxRecDepth 100000

theorem lots_le {t : List Gd} {b : Bx} (h : boxOk t b = true) : b.lots.length ≤ t.length := by
  obtain ⟨-, -, h2, h3⟩ := boxOk_iff.1 h
  have := length_sub (b.lots.map Lt.good) (codes t) h3 (fun n hn => by
    obtain ⟨x, hx, rfl⟩ := List.mem_map.1 hn
    obtain ⟨g, hg⟩ := ((goP_iff.1 h2).2.1 x hx).2
    obtain ⟨h4, h5⟩ := gOf_mem hg
    exact List.mem_map.2 ⟨g, h4, h5⟩)
  simpa [codes] using this
set_option maxHeartbeats 16000000 in
theorem walk (w : World) (hap : Lw w) (t : List Gd) (vt : Value) (hst : Sl w 4 vt (t.map Gd.row)) (hft : ∀ g ∈ t, g.fit) (first : Int) (_ : (Lit.int .i64 first).wf = true) (own : ByteArray) (_ : own.size ≤ maxLen) (l : List Lt) (vl : Value) (hsl : Sl w 2 vl (l.map Lt.row)) (_ : ∀ x ∈ l, x.fit) :
    Calls Tryd.prog 3 #[vt, .int .i64 first, .string own, vl] w (RetB w true) := by
  have HAW := Lib.hid (awake12_any w hap)
  have HAW2 := Lib.hid (fun W (hW : Below w.heap.size w W) => awake12_any W (hap.below hW))
  have HFT := Lib.hid (fun W (hW : Below w.heap.size w W) => few12_any t l vt vl W (hst.below hW (Nat.le_refl _)) (hsl.below hW (Nat.le_refl _)))
  have HAP := Lib.hid (fun W (hW : Below w.heap.size w W) => hap.below hW)
  have HS := Lib.hid hst
  have HSL := Lib.hid hsl
  have HF := Lib.hid hft
  clear hap hst hsl hft
  go_enter Tryd.func3, Tryd.ntmps3
  go_wp2_with (first
    | ((with_reducible refine HAW.out.mono ?_); rintro e w1 ⟨rfl, hb1⟩; have HB := Lib.hid hb1; clear hb1)
    | fail)
  refine (HFT.out _ HB.out).mono ?_
  rintro e w2 ⟨b, rfl, hb, hb2⟩
  have HB := Lib.hid (HB.out.trans (hb2.mono HB.out.size))
  clear hb2
  cases b with
  | false =>
    clear hb
    go_wp2_with (first
      | ((with_reducible refine (HAW2.out _ HB.out).mono ?_); rintro e w1 ⟨rfl, hb1⟩; have HB := Lib.hid (HB.out.trans (hb1.mono HB.out.size)); clear hb1)
      | fail)
    go_ret
    exact ⟨rfl, HB.out⟩
  | true =>
  have HFEW := Lib.hid (hb rfl)
  clear hb
  have HT := Lib.hid (table_any t vt w2 (HS.out.below HB.out (Nat.le_refl _)) (by have := HFEW.out.1; omega) HF.out)
  by_cases h0 : tabC t = 0
  rotate_left
  · have HTN := Lib.hid (HT.out.mono fun e w' h => table_no h h0)
    clear h0 HT
    go_wp2_with (first
      | ((with_reducible refine HTN.out.mono ?_); rintro e w3 ⟨rfl, hb3⟩; have HB := Lib.hid (HB.out.trans (hb3.mono HB.out.size)); clear hb3)
      | fail)
    go_ret
    exact ⟨rfl, HB.out⟩
  have HTN := Lib.hid (HT.out.mono fun e w' h => table_ok h h0)
  have hok := tabC_ok h0
  have HPK := Lib.hid (fun W bt bm (hW : Below w.heap.size w W) (ht : Tab W bt bm t) => pack_any t l first own bt bm vl W (HAP.out _ hW).1 (HAP.out _ hW).2 (HSL.out.below hW (Nat.le_refl _)) (by have := HFEW.out.2.1; omega) ht hok.2.1 hok.1)
  have HOK := Lib.hid hok
  clear h0 HT hok
  go_wp2_with (first
    | ((with_reducible refine HTN.out.mono ?_); rintro e w3 ⟨bt, bm, rfl, ht, hb3⟩; have HT := Lib.hid ht; have HB := Lib.hid (HB.out.trans (hb3.mono HB.out.size)); clear ht hb3)
    | fail)
  refine (HPK.out _ _ _ HB.out HT.out).mono ?_
  rintro e w4 ⟨hb4, hq⟩
  have HT := Lib.hid (HT.out.below hb4)
  have HB := Lib.hid (HB.out.trans (hb4.mono HB.out.size))
  clear hb4
  rcases hq with ⟨h0, rfl⟩ | ⟨h0, v, R, rfl, hat, hR⟩
  · have t0 : ((packR t first own l).1 != 0) = true := by simp [h0]
    generalize (packR t first own l).1 = q at *
    clear h0
    go_wp2_with fail
    go_ret
    exact ⟨rfl, HB.out⟩
  have HPK2 : Hid (Packed t first own l (R.map Bv.b)) := Lib.hid (packR_packed HOK.out.1 (by rw [hR, ← h0]))
  obtain ⟨av, cv, rfl⟩ := Ord.row_slice hat.own
  have HAT := Lib.hid hat
  have hR64 : R.length ≤ 64 := by have := HPK2.out.len; rwa [List.length_map] at this
  clear h0 hR hat
  go_wp2_with fail
  go_loopw [12, 13, 15, 44, 59, 60, 61] (fun _ _ _ i _ _ _ wr => ∃ k : Nat, k ≤ R.length ∧ i = .int .i64 k ∧ Below w4.heap.size w4 wr) (fun _ _ _ i _ _ _ _ => R.length - (intOf i).toNat)
  case atStart => exact ⟨0, Nat.zero_le _, rfl, Below.refl _ _⟩
  case round =>
    obtain ⟨i, hi, rfl, hbel⟩ := hrel
    have HBI := Lib.hid hbel
    by_cases hlt : i < R.length
    rotate_left
    · clear hbel
      go_wp2_with fail
      go_ret
      exact ⟨rfl, HB.out.trans (HBI.out.mono HB.out.size)⟩
    · obtain ⟨g, cap, cur, hv, hg, -, -, -, -, -⟩ := HAT.out.at hlt
      obtain ⟨rfl, rfl⟩ : av = some ⟨g, 0, none⟩ ∧ cv = cap := by
        simp only [Value.slice.injEq, true_and] at hv
        exact hv
      have HBX : Hid (∀ W, Below w4.heap.size w4 W → ∀ q (hq : q < R.length), (W.cell? ⟨g, q * 3, none⟩ = some (.string R[q].b.mark) ∧ W.cell? ⟨g, q * 3 + 1, none⟩ = some (.int .i64 R[q].b.kind) ∧ W.cell? ⟨g, q * 3 + 2, none⟩ = some R[q].v) ∧ Sl W 2 R[q].v (R[q].b.lots.map Lt.row)) := Lib.hid (fun W hW q hq => by
        obtain ⟨g2, cap2, cur2, hv2, hg2, -, -, e0, e1, e2⟩ := HAT.out.at hq
        obtain rfl : g = g2 := by
          simp only [Value.slice.injEq, Option.some.injEq, Addr.mk.injEq] at hv2
          exact hv2.1.1
        have k2 := blk hW (lt_blk hg2) hg2
        exact ⟨⟨(cell_blk k2 _).trans e0, (cell_blk k2 _).trans e1, (cell_blk k2 _).trans e2⟩, (own_lots (HAT.out.lots _ (List.getElem_mem hq)) rfl).below hW (Nat.le_refl _)⟩)
      have HRM : Hid (∀ q (hq : q < R.length), R[q].b.lots.length ≤ 3000) := Lib.hid (fun q hq => by
        have h1 := (rightP_iff.1 HPK2.out.right).1 R[q].b (List.mem_map.2 ⟨_, List.getElem_mem hq, rfl⟩)
        have := lots_le h1
        have := HFEW.out.1
        omega)
      have HNO : Hid (∀ q (hq : q < R.length), i < q → ∀ x ∈ R[q].b.lots, goP t R[i].b.kind (R[i].b.lots ++ [⟨x.good, 1⟩]) = false) := Lib.hid (fun q hq hiq x hx => by
        have h1 := List.pairwise_iff_getElem.1 HPK2.out.room i q (by simpa using hlt) (by simpa using hq) hiq
        rw [List.getElem_map, List.getElem_map] at h1
        exact h1 x hx)
      have HFI : Hid (∀ W, Below w4.heap.size w4 W → ∀ (xn : ByteArray), goP t R[i].b.kind (R[i].b.lots ++ [⟨xn, 1⟩]) = false → Calls Tryd.prog 9 #[.pointer (some ⟨bt, 0, none⟩), .agg #[.string R[i].b.mark, .int .i64 R[i].b.kind, R[i].v], .agg #[.string xn, .int .i64 1]] W (RetB W false)) := Lib.hid (fun W hW xn hx => by
        have := fits_any t R[i].b.mark R[i].b.kind R[i].b.lots ⟨xn, 1⟩ bt bm R[i].v W (HAP.out _ (HB.out.trans (hW.mono HB.out.size))).1 (HBX.out W hW i hlt).2 (HRM.out i hlt) (HT.out.below hW) HOK.out.2.1 HOK.out.1
        rwa [hx] at this)
      have HBI3 := Lib.hid (fun W (hW : Below w4.heap.size w4 W) => (HBX.out W hW i hlt).1)
      obtain ⟨m, kd, vL, LI, hm, hkd, hvL, hLI⟩ : ∃ m kd vL LI, m = R[i].b.mark ∧ kd = R[i].b.kind ∧ vL = R[i].v ∧ LI = R[i].b.lots := ⟨_, _, _, _, rfl, rfl, rfl, rfl⟩
      rw [← hm, ← hkd, ← hvL, ← hLI] at HFI
      rw [← hkd, ← hLI] at HNO
      rw [← hm, ← hkd, ← hvL] at HBI3
      clear hv hg hm hkd hvL hLI
      have ti : ((i : Nat) : Int) < (R.length : Int) := by omega
      clear hbel
      go_wp2_with fail
      go_loopw [13, 15, 59, 60, 61] (fun i2 _ _ _ _ wr => ∃ k : Nat, k ≤ R.length ∧ i < k ∧ i2 = .int .i64 k ∧ Below w4.heap.size w4 wr) (fun i2 _ _ _ _ _ => R.length - (intOf i2).toNat)
      case atStart => exact ⟨i + 1, by omega, by omega, by go_num, HBI.out⟩
      case round =>
        obtain ⟨k, hk, hik, rfl, hbel⟩ := hrel
        have HBK := Lib.hid hbel
        by_cases hltk : k < R.length
        rotate_left
        · clear hbel
          go_wp2_with fail
          go_roundw
          case rel => exact ⟨i + 1, by omega, by go_num, HBK.out⟩
          case measure => (simp [intOf]) <;> omega
        · have tk : ((k : Nat) : Int) < (R.length : Int) := by omega
          have hsl := fun W hW => HBX.out W hW k hltk
          have HNK := Lib.hid (HNO.out k hltk hik)
          have hKl := HRM.out k hltk
          obtain ⟨aK, cK, hK⟩ := (hsl wr hbel).2.shape
          rw [List.length_map] at hK
          rw [hK] at hsl
          have c2 := (hsl wr hbel).1.2.2
          have HSK := Lib.hid (fun W hW => (hsl W hW).2)
          generalize R[k].b.lots = K at *
          clear hbel hsl hK
          go_wp2_with fail
          go_loopw [15, 61] (fun _ i3 wr => ∃ x : Nat, x ≤ K.length ∧ i3 = .int .i64 x ∧ Below w4.heap.size w4 wr) (fun _ i3 _ => K.length - (intOf i3).toNat)
          case atStart => exact ⟨0, Nat.zero_le _, rfl, HBK.out⟩
          case round =>
            obtain ⟨x, hx, rfl, hbel⟩ := hrel
            by_cases hltx : x < K.length
            rotate_left
            · have HBX := Lib.hid hbel
              clear hbel
              go_wp2_with fail
              go_roundw
              case rel => exact ⟨k + 1, by omega, by omega, by go_num, HBX.out⟩
              case measure => (simp [intOf]) <;> omega
            · obtain ⟨b, off, rfl, -, hb, hc⟩ := (HSK.out wr hbel).at (i := x) (by simpa using hltx)
              have d0 : wr.cell? ⟨b, off + x * 2, none⟩ = some (.string K[x].good) := hc x K[x].row (by simp [hltx]) 0 _ rfl
              have d1 : wr.cell? ⟨b, off + x * 2 + 1, none⟩ = some (.int .i64 K[x].cnt) := hc x K[x].row (by simp [hltx]) 1 _ rfl
              have HF0 := Lib.hid (HNK.out _ (List.getElem_mem hltx))
              have tx : ((x : Nat) : Int) < (K.length : Int) := by omega
              generalize K[x] = y at *
              obtain ⟨xn, xc⟩ := y
              simp only at d0 d1 HF0
              have hb15 := heap_alloc_new wr (.cells #[.string xn, .int .i64 xc] 35)
              have HBX := Lib.hid (hbel.trans ((one_below wr (.cells #[.string xn, .int .i64 xc] 35)).mono hbel.size))
              clear hbel hb hc
              go_wp2_with fail
              obtain ⟨w8, hw8⟩ : ∃ W, W = wr.alloc (.cells #[.string xn, .int .i64 xc] 35) := ⟨_, rfl⟩
              obtain ⟨b15, h15⟩ : ∃ b, b = wr.heap.size := ⟨_, rfl⟩
              rw [← hw8] at hb15 HBX ⊢
              rw [← h15] at hb15 ⊢
              have HC : Hid (∀ W, Below w8.heap.size w8 W → (W.cell? ⟨g, i * 3, none⟩ = some (.string m) ∧ W.cell? ⟨g, i * 3 + 1, none⟩ = some (.int .i64 kd) ∧ W.cell? ⟨g, i * 3 + 2, none⟩ = some vL) ∧ W.cell? ⟨b15, 0, none⟩ = some (.string xn)) := Lib.hid (fun W hW =>
                ⟨HBI3.out W (HBX.out.trans (hW.mono HBX.out.size)), cell_blk (blk hW (lt_blk hb15) hb15) 0⟩)
              have HFT := Lib.hid (fun W (hW : Below w8.heap.size w8 W) => HFI.out W (HBX.out.trans (hW.mono HBX.out.size)) xn HF0.out)
              clear hw8 h15 hb15
              refine Any.region_lit (fun
                | 0 => Any.val (.pointer (some ⟨bt, 0, none⟩))
                | 1 => Any.val (.slice (some ⟨g, 0, none⟩) R.length cv)
                | 2 => Any.val (.int .i64 (i : Int))
                | 3 => Any.val (.pointer (some ⟨g, i * 3, none⟩))
                | 4 => Any.val (.agg #[.string m, .int .i64 kd, vL])
                | 5 => Any.val (.pointer (some ⟨b15, 0, none⟩))
                | 6 => Any.val (.string xn)
                | 7 => Any.val (.agg #[.string xn, .int .i64 1])
                | 8 => Any.val (.bool false)
                | _ => Any.idle) (by kernel_rfl) (by kernel_rfl) (by kernel_rfl) ?_ ?_ ?_
              · intro i _
                match i with
                | 0 => exact Any.lasts_val _
                | 1 => exact Any.lasts_val _
                | 2 => exact Any.lasts_val _
                | 3 => exact Any.lasts_val _
                | 4 => exact Any.lasts_val _
                | 5 => exact Any.lasts_val _
                | 6 => exact Any.lasts_val _
                | 7 => exact Any.lasts_val _
                | 8 => exact Any.lasts_val _
                | n + 9 => exact Any.lasts_idle
              · refine ⟨?_, ?_, ?_, ?_, ?_, ?_, ?_, ?_, ?_, trivial⟩
                · refine Any.owes_plain rfl fun ρ wo hs' hb hc' => ?_
                  have h9 : ρ (.tmp 9) = .pointer (some ⟨bt, 0, none⟩) := hs'.old' 9 (by kernel_rfl)
                  exact Any.ok_move (Any.post_val hb rfl h9)
                · refine Any.owes_plain rfl fun ρ wo hs' hb hc' => ?_
                  have h10 : ρ (.tmp 10) = .slice (some ⟨g, 0, none⟩) R.length cv := hs'.old' 10 (by kernel_rfl)
                  exact Any.ok_move (Any.post_val hb rfl h10)
                · refine Any.owes_plain rfl fun ρ wo hs' hb hc' => ?_
                  have h12 : ρ (.tmp 12) = .int .i64 (i : Int) := hs'.old' 12 (by kernel_rfl)
                  exact Any.ok_move (Any.post_val hb rfl h12)
                · refine Any.owes_plain rfl fun ρ wo hs' hb hc' => ?_
                  have h66 : ρ (.tmp 66) = .slice (some ⟨g, 0, none⟩) R.length cv := hs'.new' 66 1 (by kernel_rfl)
                  have h67 : ρ (.tmp 67) = .int .i64 (i : Int) := hs'.new' 67 2 (by kernel_rfl)
                  go_simp
                  exact Any.post_val hb rfl rfl
                · refine Any.owes_plain rfl fun ρ wo hs' hb hc' => ?_
                  have h68 : ρ (.tmp 68) = .pointer (some ⟨g, i * 3, none⟩) := hs'.new' 68 3 (by kernel_rfl)
                  obtain ⟨c0, c1, c2⟩ := (HC.out wo (below_undrew hb)).1
                  go_simp
                  exact Any.post_val hb rfl rfl
                · refine Any.owes_plain rfl fun ρ wo hs' hb hc' => ?_
                  have h15 : ρ (.tmp 15) = .pointer (some ⟨b15, 0, none⟩) := hs'.old' 15 (by kernel_rfl)
                  go_simp
                  exact Any.post_val hb rfl rfl
                · refine Any.owes_plain rfl fun ρ wo hs' hb hc' => ?_
                  have h70 : ρ (.tmp 70) = .pointer (some ⟨b15, 0, none⟩) := hs'.new' 70 5 (by kernel_rfl)
                  have c0 := (HC.out wo (below_undrew hb)).2
                  go_simp
                  exact Any.post_val hb rfl rfl
                · refine Any.owes_plain rfl fun ρ wo hs' hb hc' => ?_
                  have h71 : ρ (.tmp 71) = .string xn := hs'.new' 71 6 (by kernel_rfl)
                  go_simp
                  exact Any.post_val hb rfl rfl
                · refine Any.owes_plain rfl fun ρ wo hs' hb hc' => ?_
                  have h65 : ρ (.tmp 65) = .pointer (some ⟨bt, 0, none⟩) := hs'.new' 65 0 (by kernel_rfl)
                  have h69 : ρ (.tmp 69) = .agg #[.string m, .int .i64 kd, vL] := hs'.new' 69 4 (by kernel_rfl)
                  have h72 : ρ (.tmp 72) = .agg #[.string xn, .int .i64 1] := hs'.new' 72 7 (by kernel_rfl)
                  have hf := hs'.func 9
                  go_simp
                  exact (HFT.out wo (below_undrew hb)).mono fun e w' ⟨he, hb'⟩ => ⟨_, he, Any.post_vals hb rfl rfl hb'⟩
              intro vals w8 hb hk ha
              have h8 : vals 8 = .bool false := hk 8 (by kernel_rfl)
              have HBZ := Lib.hid hb
              clear hk ha hb
              simp only [Any.putAll]
              go_frame
              simp only [Nat.zero_add, Nat.reduceAdd]
              rw [h8]
              clear h8
              go_wp2_with fail
              go_roundw
              case rel => exact ⟨x + 1, by omega, by go_num, HBX.out.trans (HBZ.out.mono HBX.out.size)⟩
              case measure => (simp [intOf]) <;> omega
theorem lifted (os : Os) (started : os.Started) (H : Type) (enc : TypeId × Value → H) :
    ReturnsInHanded {} Tryd.checked os 3 .any (fun w args => (Rows.packFirstSpec.pre enc Tryd.prog Tryd.f3 [] false w args ∧ laidMetH Tryd.prog laidA w) ∧ sizedMet enc Tryd.prog Tryd.f3 (OpenSpec.ofChange Rows.packFirstSpec) false w args) (Rows.packFirstSpec.post enc Tryd.prog Tryd.f3 false true false false) := by
  refine law_liftedD os started (by kernel_rfl) Tryd.func3
    (ChangeSpec.witness_shaped (enc := enc) (C := Tryd.checked) (os := os) (X := fun w _ => laidMetH Tryd.prog laidA w) false (World.doorLaid Tryd.prog 400 os) #[.slice none 0 0, .int .i64 0, .string ⟨#[]⟩, .slice none 0 0] 8 rfl (World.shaped_of_RefB (by kernel_rfl) (by kernel_rfl)) (by kernel_rfl) (by kernel_rfl) (by kernel_rfl) (door_met os _))
    (by kernel_rfl) rfl rfl ?_ ?_
  · intro vs ds W p hA
    rw [Tryd.params3] at hA
    obtain ⟨v0, vs0, d0, ds0, p0, q0, rfl, rfl, rfl, h0, r0⟩ := trodAll_cons hA
    obtain ⟨v1, vs1, d1, ds1, p1, q1, rfl, rfl, rfl, h1, r1⟩ := trodAll_cons r0
    obtain ⟨v2, vs2, d2, ds2, p2, q2, rfl, rfl, rfl, h2, r2⟩ := trodAll_cons r1
    obtain ⟨v3, vs3, d3, ds3, p3, q3, rfl, rfl, rfl, h3, r3⟩ := trodAll_cons r2
    obtain ⟨rfl, rfl, rfl⟩ := trodAll_nil r3
    rfl
  · intro W base args ds p hap hval hA
    rw [Tryd.params3] at hA hval
    obtain ⟨v0, vs0, d0, ds0, p0, q0, hargs, rfl, rfl, h0, r0⟩ := trodAll_cons hA
    obtain ⟨v1, vs1, d1, ds1, p1, q1, rfl, rfl, rfl, h1, r1⟩ := trodAll_cons r0
    obtain ⟨v2, vs2, d2, ds2, p2, q2, rfl, rfl, rfl, h2, r2⟩ := trodAll_cons r1
    obtain ⟨v3, vs3, d3, ds3, p3, q3, rfl, rfl, rfl, h3, r3⟩ := trodAll_cons r2
    obtain ⟨rfl, rfl, rfl⟩ := trodAll_nil r3
    obtain rfl : args = #[v0, v1, v2, v3] := by cases args; simp_all
    obtain ⟨l0, hs0, hf0⟩ := open_goods (hval 0 22 v0 rfl rfl) h0
    obtain ⟨a1, rfl, rfl, rfl, w1⟩ := open_int Tryd.underlying3 (hval 1 3 v1 rfl rfl) h1
    obtain ⟨a2, rfl, rfl, rfl, w2⟩ := Go.ChangeMaps.open_string Tryd.underlying9 (hval 2 9 v2 rfl rfl) h2
    obtain ⟨l3, hs3, hf3⟩ := open_lots (hval 3 23 v3 rfl rfl) h3
    exact walk W hap l0 v0 hs0 hf0 a1 w1 a2 w2 l3 v3 hs3 hf3

theorem over : Rows.packFirstRow.holds Tryd.pinned (OpenSpec.ofChange Rows.packFirstSpec) :=
  OpenClaim.holds_of_wide 3 Tryd.f3 rfl rfl rfl rfl rfl rfl rfl ⟨rfl, rfl, rfl, rfl, rfl⟩ rfl rfl rfl rfl rfl (by kernel_rfl) Tryd.func3 (by kernel_rfl)
    (of_decide_eq_true (by kernel_rfl)) (by unfold Func.isWrapper; rw [if_neg (by decide +kernel)]; exact ⟨rfl, rfl⟩)
    (fun os started H enc _ => lifted os started H enc)

/-- The statement. -/
theorem proved : Rows.PackFirstCardSaid :=
  Claim7.holds_tied_plain_at .later [] [.data, .data, .data, .data] true _ false
    over (fun _ h => by cases h) (by kernel_rfl) (fun _ h => by cases h) packFirst_row_tie rfl ⟨rfl, rfl⟩ (by kernel_rfl) rfl
    (fun f fn hf hfn => by
      obtain rfl : f = 3 := Option.some.inj (hf.symm.trans (by kernel_rfl))
      obtain rfl : fn = Tryd.f3 := (Option.some.inj (Tryd.func3.symm.trans hfn)).symm
      exact ⟨by kernel_rfl, fun j t ht => by
        have hall : (Tryd.f3.params.toList.all fun u => !Tryd.prog.wantsStandIn u) = true := by kernel_rfl
        have hm : t ∈ Tryd.f3.params.toList := by simpa using Array.mem_of_getElem? ht
        exact (show Tryd.prog.wantsStandIn t = false by simpa using List.all_eq_true.1 hall t hm)⟩)
    (by kernel_rfl)
#print axioms proved
end Go.Proofs.YtgnfdplphpejaaaDoor.packFirst
