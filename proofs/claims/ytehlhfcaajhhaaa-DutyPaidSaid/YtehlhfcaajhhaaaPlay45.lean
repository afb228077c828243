/- play: calls of both bonds. -/
import Derived.Test.YtehlhfcaajhhaaaOps45
import Derived.Test.YtehlhfcaajhhaaaDueP45
namespace Go.Proofs.Ytehlhfcaajhhaaa.Sc
open Go Go.RowKit Go.ChangeShapes Go.WideShapes Go.ChangeAt
set_option maxRecDepth 100000

theorem op_cells {w : World} {b : Nat} {x0 x1 x2 x3 x4 : Value} {T : TypeId} (h : w.heap[b]? = some (.cells #[x0, x1, x2, x3, x4] T (0, 0))) :
    w.cell? ⟨b, 0, none⟩ = some x0 ∧ w.cell? ⟨b, 1, none⟩ = some x1 ∧ w.cell? ⟨b, 2, none⟩ = some x2 ∧ w.cell? ⟨b, 3, none⟩ = some x3 ∧ w.cell? ⟨b, 4, none⟩ = some x4 :=
  ⟨cell_blk h 0, cell_blk h 1, cell_blk h 2, cell_blk h 3, cell_blk h 4⟩
/-- The reference's row lies apart from the bond. -/
def Apart (B N bp bm : Nat) (v : Value) : Prop := ∀ b, v.ownBlock = some b → ¬ b = bp ∧ ¬ b = bm ∧ B ≤ b ∧ b < N
theorem apart_more {B N N' bp bm : Nat} {v : Value} (h : Apart B N bp bm v) (hN : N ≤ N') : Apart B N' bp bm v := fun b hb => ⟨(h b hb).1, (h b hb).2.1, (h b hb).2.2.1, Nat.lt_of_lt_of_le (h b hb).2.2.2 hN⟩
theorem apart_ref {B bp bm : Nat} {w w' : World} {L : Int} {l : List Bx} {v u : Value} (h : Apart B w.heap.size bp bm v) (ho : ∀ b, u.ownBlock = some b → v.ownBlock = some b ∨ (w.heap.size ≤ b ∧ b < w'.heap.size)) (hb : Below w.heap.size w w') (hs : Bst w bp bm L l) (hB : B ≤ w.heap.size) :
    Apart B w'.heap.size bp bm u := fun b hb' => by
  obtain ⟨es, hm, -⟩ := hs.map
  have h1 := lt_blk hs.box
  have h2 := hm.lt
  have h3 := hb.size
  rcases ho b hb' with h4 | h4
  · have := h b h4; exact ⟨this.1, this.2.1, this.2.2.1, by omega⟩
  · exact ⟨by omega, by omega, by omega, h4.2⟩
theorem apart_copy {B N N' bp bm bq bn : Nat} {v : Value} (h : Apart B N bp bm v) (h1 : N ≤ bq) (h2 : N ≤ bn) (hN : N ≤ N') : Apart B N' bq bn v := fun b hb => by
  have := h b hb
  exact ⟨by omega, by omega, this.2.2.1, by omega⟩
/-- Behind play: the bond, and the reference's row, apart from it. -/
def PlayP (w : World) (L : Int) (l : List Bx) (e : Ending) (w' : World) : Prop :=
  ∃ bp bm v, e = .returned (.tuple #[.pointer (some ⟨bp, 0, none⟩), v]) ∧ Bst w' bp bm L l ∧ Sl w' 4 v (l.map Bx.row) ∧ Apart w.heap.size w'.heap.size bp bm v ∧ (w.heap.size ≤ bp ∧ w.heap.size ≤ bm) ∧ Below w.heap.size w w'
set_option maxHeartbeats 16000000 in
theorem play_any (limit : Int) (ops : List O5) (v : Value) (w : World) (hs : Sl w 5 v (ops.map O5.row)) (hlen : ops.length ≤ 4000) (hfit : ∀ o ∈ ops, o.fit) :
    Calls Try.prog 16 #[.int .i64 limit, v] w (PlayP w (limOf limit) (playL (limOf limit) ops)) := by
  obtain ⟨a, c, rfl⟩ : ∃ a c, v = .slice a ops.length c := by simpa using hs.shape
  have hml : ops.length ≤ 9223372036854775807 := by omega
  have HSL := Lib.hid hs
  have HLEN := Lib.hid hlen
  have HFIT := Lib.hid hfit
  clear hs hlen hfit
  go_enter Try.func16, Try.ntmps16
  go_wp2_with fail
  refine (open_any limit _).mono ?_
  rintro e w1 ⟨bp0, bm0, rfl, h1, h2, hb0, hbel0⟩
  have HB0 := Lib.hid hb0
  have HBEL0 := Lib.hid hbel0
  have HPP0 : Hid (w.heap.size ≤ bp0 ∧ w.heap.size ≤ bm0) := Lib.hid ⟨h1, h2⟩
  clear hb0 hbel0 h1 h2
  go_wp2_with fail
  go_loopw [6, 7, 9, 10, 11, 19] (fun b v _ _ _ i wr => ∃ (k bp bm : Nat), k ≤ ops.length ∧ i = .int .i64 k ∧ b = .pointer (some ⟨bp, 0, none⟩) ∧ Bst wr bp bm (limOf limit) (playL (limOf limit) (ops.take k)) ∧ Sl wr 4 v ((playL (limOf limit) (ops.take k)).map Bx.row) ∧
    Apart w.heap.size wr.heap.size bp bm v ∧ (w.heap.size ≤ bp ∧ w.heap.size ≤ bm) ∧ Below w.heap.size w wr) (fun _ _ _ _ _ i _ => ops.length - (intOf i).toNat)
  case atStart => exact ⟨0, bp0, bm0, Nat.zero_le _, rfl, rfl, HB0.out, .inl ⟨rfl, _, _, rfl, by simp⟩, (fun b hb => by cases hb), HPP0.out, HBEL0.out⟩
  case round =>
    obtain ⟨k, bp, bm, hk, rfl, rfl, hbs, hsv, hap, hpp, hbel⟩ := hrel
    have HBEL := Lib.hid hbel
    have HPP := Lib.hid hpp
    by_cases hlt : k < ops.length
    · obtain ⟨b, off, rfl, -, hb, hc⟩ := HSL.out.at (i := k) (by simpa using hlt)
      have hr := hc k ops[k].row (by simp [hlt])
      have d0 := (hbel.cell (p := ⟨b, off + k * 5, none⟩) hb).trans (hr 0 _ rfl)
      have d1 := (hbel.cell (p := ⟨b, off + k * 5 + 1, none⟩) hb).trans (hr 1 _ rfl)
      have d2 := (hbel.cell (p := ⟨b, off + k * 5 + 2, none⟩) hb).trans (hr 2 _ rfl)
      have d3 := (hbel.cell (p := ⟨b, off + k * 5 + 3, none⟩) hb).trans (hr 3 _ rfl)
      have d4 := (hbel.cell (p := ⟨b, off + k * 5 + 4, none⟩) hb).trans (hr 4 _ rfl)
      have HT0 := Lib.hid (playL_take (limOf limit) ops k hlt)
      have HKL : Hid ((playL (limOf limit) (ops.take k)).length ≤ 4000) := Lib.hid (by have h1 := playL_len (limOf limit) (ops.take k); have := HLEN.out; simp at h1; omega)
      have HFX := Lib.hid (And.intro (HFIT.out _ (List.getElem_mem hlt)).box (HFIT.out _ (List.getElem_mem hlt)).to)
      generalize playL (limOf limit) (ops.take k) = lk at *
      generalize ops[k] = x at *
      have HBO := Lib.hid (one_below wr (.cells #[.int .i64 x.kind, .int .i64 x.day, .string x.box, .string x.to, .int .i64 x.n] 57))
      have HXX : Hid ((wr.alloc (.cells #[.int .i64 x.kind, .int .i64 x.day, .string x.box, .string x.to, .int .i64 x.n] 57)).heap[wr.heap.size]? = some (.cells #[.int .i64 x.kind, .int .i64 x.day, .string x.box, .string x.to, .int .i64 x.n] 57 (0, 0))) := Lib.hid (heap_alloc_new _ _)
      have HBS := Lib.hid (hbs.below HBO.out)
      have HSX := Lib.hid (hsv.below HBO.out (Nat.le_refl _))
      have HOO := Lib.hid (apart_more hap HBO.out.size)
      have HBW := Lib.hid (HBEL.out.trans (HBO.out.mono HBEL.out.size))
      clear hr hc hbel hbs hsv hap hpp
      obtain ⟨xk, xd, xb, xt, xn⟩ := x
      simp only at d0 d1 d2 d3 d4 HBO HXX HBS HSX HOO HBW HFX
      by_cases hk1 : xk = 1
      · have t1 : (xk == 1) = true := by simp [hk1]
        obtain ⟨l2, hl2⟩ : ∃ x, x = enterL lk (limOf limit) xb xn xd := ⟨_, rfl⟩
        obtain ⟨C, hC⟩ : ∃ x, x = enterC lk (limOf limit) xb xn xd := ⟨_, rfl⟩
        have HR : Hid (∀ W, Sl W 4 u7 (lk.map Bx.row) → Calls Try.prog 36 #[u7, .int .i64 limit, .string xb, .int .i64 xn, .int .i64 xd] W (RefP W u7 l2 C)) := Lib.hid (fun W h => by rw [hl2, hC]; exact refEnter_any lk limit xb xn xd u7 W h HKL.out HBS.out.good (by have h1 := HBS.out.us; have h2 := HBS.out.lim; omega) HFX.out.1)
        have HE : Hid (∀ W, Bst W bp bm (limOf limit) lk → Calls Try.prog 25 #[.pointer (some ⟨bp, 0, none⟩), .string xb, .int .i64 xn, .int .i64 xd] W (BondP W bp bm (limOf limit) l2 (.int .i64 C))) := Lib.hid (fun W h => by rw [hl2, hC]; exact enter_any lk (limOf limit) bp bm xb xn xd W h HKL.out)
        have HT : Hid (playL (limOf limit) (ops.take (k + 1)) = l2) := Lib.hid (by rw [HT0.out, hl2]; rw [stepL, if_pos hk1])
        have HUS := Lib.hid (fun q r W (h : Bst W q r (limOf limit) l2) => used_any l2 (limOf limit) q r W h)
        have HRU := Lib.hid (fun W v hg hu (h : Sl W 4 v (l2.map Bx.row)) => refUsed_any l2 v W h hg hu)
        have tc : (C != C) = false := by simp
        have tu : (usedOf l2 != usedOf l2) = false := by simp
        clear hl2 hC hk1
        go_wp2_with (first
          | ((with_reducible refine (HR.out _ HSX.out).mono ?_); rintro e w2 ⟨u, rfl, hs2, hb2, ho2⟩; have HXX := Lib.hid (blk hb2 (lt_blk HXX.out) HXX.out); have HOO := Lib.hid (apart_ref HOO.out ho2 hb2 HBS.out HBW.out.size); have HSX := Lib.hid hs2; have HBS := Lib.hid (HBS.out.below hb2); have HBW := Lib.hid (HBW.out.trans (hb2.mono HBW.out.size)); obtain ⟨x0, x1, x2, x3, x4⟩ := op_cells HXX.out; clear hs2 hb2 ho2)
          | ((with_reducible refine (HE.out _ HBS.out).mono ?_); rintro e w3 ⟨rfl, hs3, hk3⟩; have HSX := Lib.hid (HSX.out.keep hk3 (fun b hb h => h.elim (HOO.out b hb).1 (HOO.out b hb).2.1)); have HOO := Lib.hid (apart_more HOO.out hk3.size); have HBW := Lib.hid (hk3.behind HBW.out HBW.out.size (fun k hk h => by have := HPP.out; omega)); have HBS := Lib.hid hs3; clear hs3 hk3)
          | ((with_reducible refine (HUS.out _ _ _ HBS.out).mono ?_); rintro e w4 ⟨rfl, hb4⟩; have HSX := Lib.hid (HSX.out.below hb4 (Nat.le_refl _)); have HOO := Lib.hid (apart_more HOO.out hb4.size); have HBW := Lib.hid (HBW.out.trans (hb4.mono HBW.out.size)); have HBS := Lib.hid (HBS.out.below hb4); clear hb4)
          | ((with_reducible refine (HRU.out _ _ HBS.out.good (by have h1 := HBS.out.us; have h2 := HBS.out.lim; omega) HSX.out).mono ?_); rintro e w5 ⟨rfl, hb5⟩; have HSX := Lib.hid (HSX.out.below hb5 (Nat.le_refl _)); have HOO := Lib.hid (apart_more HOO.out hb5.size); have HBW := Lib.hid (HBW.out.trans (hb5.mono HBW.out.size)); have HBS := Lib.hid (HBS.out.below hb5); clear hb5)
          | fail)
        go_roundw
        case rel => exact ⟨k + 1, bp, bm, by omega, by go_num, rfl, by rw [HT.out]; exact HBS.out, by rw [HT.out]; exact HSX.out, HOO.out, HPP.out, HBW.out⟩
        case measure => (simp [intOf]) <;> omega
      · by_cases hk2 : xk = 2
        · have t1 : (xk == 1) = false := by simp [hk1]
          have t2 : (xk == 2) = true := by simp [hk2]
          obtain ⟨l2, hl2⟩ : ∃ x, x = leaveL lk xb 1 (rfRel xn) := ⟨_, rfl⟩
          obtain ⟨C, hC⟩ : ∃ x, x = leaveC lk xb (rfRel xn) := ⟨_, rfl⟩
          have HR : Hid (∀ W, Sl W 4 u7 (lk.map Bx.row) → Calls Try.prog 37 #[u7, .string xb, .int .i64 xn] W (RefP W u7 l2 C)) := Lib.hid (fun W h => by rw [hl2, hC]; exact refRelease_any lk xb xn u7 W h HKL.out HBS.out.nodup)
          have HE : Hid (∀ W, Bst W bp bm (limOf limit) lk → Calls Try.prog 18 #[.pointer (some ⟨bp, 0, none⟩), .string xb, .int .i64 xn] W (BondP W bp bm (limOf limit) l2 (.int .i64 C))) := Lib.hid (fun W h => by rw [hl2, hC]; exact release_any lk (limOf limit) bp bm xb xn W h)
          have HT : Hid (playL (limOf limit) (ops.take (k + 1)) = l2) := Lib.hid (by rw [HT0.out, hl2]; rw [stepL, if_neg hk1, if_pos hk2])
          have HUS := Lib.hid (fun q r W (h : Bst W q r (limOf limit) l2) => used_any l2 (limOf limit) q r W h)
          have HRU := Lib.hid (fun W v hg hu (h : Sl W 4 v (l2.map Bx.row)) => refUsed_any l2 v W h hg hu)
          have tc : (C != C) = false := by simp
          have tu : (usedOf l2 != usedOf l2) = false := by simp
          clear hl2 hC hk1 hk2
          go_wp2_with (first
            | ((with_reducible refine (HR.out _ HSX.out).mono ?_); rintro e w2 ⟨u, rfl, hs2, hb2, ho2⟩; have HXX := Lib.hid (blk hb2 (lt_blk HXX.out) HXX.out); have HOO := Lib.hid (apart_ref HOO.out ho2 hb2 HBS.out HBW.out.size); have HSX := Lib.hid hs2; have HBS := Lib.hid (HBS.out.below hb2); have HBW := Lib.hid (HBW.out.trans (hb2.mono HBW.out.size)); obtain ⟨x0, x1, x2, x3, x4⟩ := op_cells HXX.out; clear hs2 hb2 ho2)
            | ((with_reducible refine (HE.out _ HBS.out).mono ?_); rintro e w3 ⟨rfl, hs3, hk3⟩; have HSX := Lib.hid (HSX.out.keep hk3 (fun b hb h => h.elim (HOO.out b hb).1 (HOO.out b hb).2.1)); have HOO := Lib.hid (apart_more HOO.out hk3.size); have HBW := Lib.hid (hk3.behind HBW.out HBW.out.size (fun k hk h => by have := HPP.out; omega)); have HBS := Lib.hid hs3; clear hs3 hk3)
            | ((with_reducible refine (HUS.out _ _ _ HBS.out).mono ?_); rintro e w4 ⟨rfl, hb4⟩; have HSX := Lib.hid (HSX.out.below hb4 (Nat.le_refl _)); have HOO := Lib.hid (apart_more HOO.out hb4.size); have HBW := Lib.hid (HBW.out.trans (hb4.mono HBW.out.size)); have HBS := Lib.hid (HBS.out.below hb4); clear hb4)
            | ((with_reducible refine (HRU.out _ _ HBS.out.good (by have h1 := HBS.out.us; have h2 := HBS.out.lim; omega) HSX.out).mono ?_); rintro e w5 ⟨rfl, hb5⟩; have HSX := Lib.hid (HSX.out.below hb5 (Nat.le_refl _)); have HOO := Lib.hid (apart_more HOO.out hb5.size); have HBW := Lib.hid (HBW.out.trans (hb5.mono HBW.out.size)); have HBS := Lib.hid (HBS.out.below hb5); clear hb5)
            | fail)
          go_roundw
          case rel => exact ⟨k + 1, bp, bm, by omega, by go_num, rfl, by rw [HT.out]; exact HBS.out, by rw [HT.out]; exact HSX.out, HOO.out, HPP.out, HBW.out⟩
          case measure => (simp [intOf]) <;> omega
        · by_cases hk3 : xk = 3
          · have t1 : (xk == 1) = false := by simp [hk1]
            have t2 : (xk == 2) = false := by simp [hk2]
            have t3 : (xk == 3) = true := by simp [hk3]
            obtain ⟨l2, hl2⟩ : ∃ x, x = leaveL lk xb 2 (rfTra xt xd) := ⟨_, rfl⟩
            obtain ⟨C, hC⟩ : ∃ x, x = leaveC lk xb (rfTra xt xd) := ⟨_, rfl⟩
            have HR : Hid (∀ W, Sl W 4 u7 (lk.map Bx.row) → Calls Try.prog 38 #[u7, .string xb, .string xt, .int .i64 xd] W (RefP W u7 l2 C)) := Lib.hid (fun W h => by rw [hl2, hC]; exact refTransit_any lk xb xt xd u7 W h HKL.out HBS.out.nodup HFX.out.2)
            have HE : Hid (∀ W, Bst W bp bm (limOf limit) lk → Calls Try.prog 39 #[.pointer (some ⟨bp, 0, none⟩), .string xb, .string xt, .int .i64 xd] W (BondP W bp bm (limOf limit) l2 (.int .i64 C))) := Lib.hid (fun W h => by rw [hl2, hC]; exact transit_any lk (limOf limit) bp bm xb xt xd W h)
            have HT : Hid (playL (limOf limit) (ops.take (k + 1)) = l2) := Lib.hid (by rw [HT0.out, hl2]; rw [stepL, if_neg hk1, if_neg hk2, if_pos hk3])
            have HUS := Lib.hid (fun q r W (h : Bst W q r (limOf limit) l2) => used_any l2 (limOf limit) q r W h)
            have HRU := Lib.hid (fun W v hg hu (h : Sl W 4 v (l2.map Bx.row)) => refUsed_any l2 v W h hg hu)
            have tc : (C != C) = false := by simp
            have tu : (usedOf l2 != usedOf l2) = false := by simp
            clear hl2 hC hk1 hk2 hk3
            go_wp2_with (first
              | ((with_reducible refine (HR.out _ HSX.out).mono ?_); rintro e w2 ⟨u, rfl, hs2, hb2, ho2⟩; have HXX := Lib.hid (blk hb2 (lt_blk HXX.out) HXX.out); have HOO := Lib.hid (apart_ref HOO.out ho2 hb2 HBS.out HBW.out.size); have HSX := Lib.hid hs2; have HBS := Lib.hid (HBS.out.below hb2); have HBW := Lib.hid (HBW.out.trans (hb2.mono HBW.out.size)); obtain ⟨x0, x1, x2, x3, x4⟩ := op_cells HXX.out; clear hs2 hb2 ho2)
              | ((with_reducible refine (HE.out _ HBS.out).mono ?_); rintro e w3 ⟨rfl, hs3, hk3⟩; have HSX := Lib.hid (HSX.out.keep hk3 (fun b hb h => h.elim (HOO.out b hb).1 (HOO.out b hb).2.1)); have HOO := Lib.hid (apart_more HOO.out hk3.size); have HBW := Lib.hid (hk3.behind HBW.out HBW.out.size (fun k hk h => by have := HPP.out; omega)); have HBS := Lib.hid hs3; clear hs3 hk3)
              | ((with_reducible refine (HUS.out _ _ _ HBS.out).mono ?_); rintro e w4 ⟨rfl, hb4⟩; have HSX := Lib.hid (HSX.out.below hb4 (Nat.le_refl _)); have HOO := Lib.hid (apart_more HOO.out hb4.size); have HBW := Lib.hid (HBW.out.trans (hb4.mono HBW.out.size)); have HBS := Lib.hid (HBS.out.below hb4); clear hb4)
              | ((with_reducible refine (HRU.out _ _ HBS.out.good (by have h1 := HBS.out.us; have h2 := HBS.out.lim; omega) HSX.out).mono ?_); rintro e w5 ⟨rfl, hb5⟩; have HSX := Lib.hid (HSX.out.below hb5 (Nat.le_refl _)); have HOO := Lib.hid (apart_more HOO.out hb5.size); have HBW := Lib.hid (HBW.out.trans (hb5.mono HBW.out.size)); have HBS := Lib.hid (HBS.out.below hb5); clear hb5)
              | fail)
            go_roundw
            case rel => exact ⟨k + 1, bp, bm, by omega, by go_num, rfl, by rw [HT.out]; exact HBS.out, by rw [HT.out]; exact HSX.out, HOO.out, HPP.out, HBW.out⟩
            case measure => (simp [intOf]) <;> omega
          · by_cases hk4 : xk = 4
            · have t1 : (xk == 1) = false := by simp [hk1]
              have t2 : (xk == 2) = false := by simp [hk2]
              have t3 : (xk == 3) = false := by simp [hk3]
              have t4 : (xk == 4) = true := by simp [hk4]
              obtain ⟨l2, hl2⟩ : ∃ x, x = leaveL lk xb 2 rfExp := ⟨_, rfl⟩
              obtain ⟨C, hC⟩ : ∃ x, x = leaveC lk xb rfExp := ⟨_, rfl⟩
              have HR : Hid (∀ W, Sl W 4 u7 (lk.map Bx.row) → Calls Try.prog 40 #[u7, .string xb] W (RefP W u7 l2 C)) := Lib.hid (fun W h => by rw [hl2, hC]; exact refExport_any lk xb u7 W h HKL.out HBS.out.nodup)
              have HE : Hid (∀ W, Bst W bp bm (limOf limit) lk → Calls Try.prog 23 #[.pointer (some ⟨bp, 0, none⟩), .string xb] W (BondP W bp bm (limOf limit) l2 (.int .i64 C))) := Lib.hid (fun W h => by rw [hl2, hC]; exact export_any lk (limOf limit) bp bm xb W h)
              have HT : Hid (playL (limOf limit) (ops.take (k + 1)) = l2) := Lib.hid (by rw [HT0.out, hl2]; rw [stepL, if_neg hk1, if_neg hk2, if_neg hk3, if_pos hk4])
              have HUS := Lib.hid (fun q r W (h : Bst W q r (limOf limit) l2) => used_any l2 (limOf limit) q r W h)
              have HRU := Lib.hid (fun W v hg hu (h : Sl W 4 v (l2.map Bx.row)) => refUsed_any l2 v W h hg hu)
              have tc : (C != C) = false := by simp
              have tu : (usedOf l2 != usedOf l2) = false := by simp
              clear hl2 hC hk1 hk2 hk3 hk4
              go_wp2_with (first
                | ((with_reducible refine (HR.out _ HSX.out).mono ?_); rintro e w2 ⟨u, rfl, hs2, hb2, ho2⟩; have HXX := Lib.hid (blk hb2 (lt_blk HXX.out) HXX.out); have HOO := Lib.hid (apart_ref HOO.out ho2 hb2 HBS.out HBW.out.size); have HSX := Lib.hid hs2; have HBS := Lib.hid (HBS.out.below hb2); have HBW := Lib.hid (HBW.out.trans (hb2.mono HBW.out.size)); obtain ⟨x0, x1, x2, x3, x4⟩ := op_cells HXX.out; clear hs2 hb2 ho2)
                | ((with_reducible refine (HE.out _ HBS.out).mono ?_); rintro e w3 ⟨rfl, hs3, hk3⟩; have HSX := Lib.hid (HSX.out.keep hk3 (fun b hb h => h.elim (HOO.out b hb).1 (HOO.out b hb).2.1)); have HOO := Lib.hid (apart_more HOO.out hk3.size); have HBW := Lib.hid (hk3.behind HBW.out HBW.out.size (fun k hk h => by have := HPP.out; omega)); have HBS := Lib.hid hs3; clear hs3 hk3)
                | ((with_reducible refine (HUS.out _ _ _ HBS.out).mono ?_); rintro e w4 ⟨rfl, hb4⟩; have HSX := Lib.hid (HSX.out.below hb4 (Nat.le_refl _)); have HOO := Lib.hid (apart_more HOO.out hb4.size); have HBW := Lib.hid (HBW.out.trans (hb4.mono HBW.out.size)); have HBS := Lib.hid (HBS.out.below hb4); clear hb4)
                | ((with_reducible refine (HRU.out _ _ HBS.out.good (by have h1 := HBS.out.us; have h2 := HBS.out.lim; omega) HSX.out).mono ?_); rintro e w5 ⟨rfl, hb5⟩; have HSX := Lib.hid (HSX.out.below hb5 (Nat.le_refl _)); have HOO := Lib.hid (apart_more HOO.out hb5.size); have HBW := Lib.hid (HBW.out.trans (hb5.mono HBW.out.size)); have HBS := Lib.hid (HBS.out.below hb5); clear hb5)
                | fail)
              go_roundw
              case rel => exact ⟨k + 1, bp, bm, by omega, by go_num, rfl, by rw [HT.out]; exact HBS.out, by rw [HT.out]; exact HSX.out, HOO.out, HPP.out, HBW.out⟩
              case measure => (simp [intOf]) <;> omega
            · by_cases hk5 : xk = 5
              · have t1 : (xk == 1) = false := by simp [hk1]
                have t2 : (xk == 2) = false := by simp [hk2]
                have t3 : (xk == 3) = false := by simp [hk3]
                have t4 : (xk == 4) = false := by simp [hk4]
                have t5 : (xk == 5) = true := by simp [hk5]
                have HT : Hid (playL (limOf limit) (ops.take (k + 1)) = lk) := Lib.hid (by rw [HT0.out]; rw [stepL, if_neg hk1, if_neg hk2, if_neg hk3, if_neg hk4])
                have HUS := Lib.hid (fun q r W (h : Bst W q r (limOf limit) lk) => used_any lk (limOf limit) q r W h)
                have HRU := Lib.hid (fun W v hg hu (h : Sl W 4 v (lk.map Bx.row)) => refUsed_any lk v W h hg hu)
                have HCP := Lib.hid (fun W (h : Bst W bp bm (limOf limit) lk) => bcopy_any lk (limOf limit) bp bm W h)
                have tu : (usedOf lk != usedOf lk) = false := by simp
                clear hk1 hk2 hk3 hk4 hk5
                go_wp2_with (first
                  | ((with_reducible refine (HCP.out _ HBS.out).mono ?_); rintro e w3 ⟨bq, bn, rfl, h1, h2, hs3, hb3⟩; have HPP : Hid (w.heap.size ≤ bq ∧ w.heap.size ≤ bn) := Lib.hid (by have := HBW.out.size; omega); have HSX := Lib.hid (HSX.out.below hb3 (Nat.le_refl _)); have HOO := Lib.hid (apart_copy HOO.out h1 h2 hb3.size); have HBW := Lib.hid (HBW.out.trans (hb3.mono HBW.out.size)); have HBS := Lib.hid hs3; clear hs3 hb3 h1 h2)
                  | ((with_reducible refine (HUS.out _ _ _ HBS.out).mono ?_); rintro e w4 ⟨rfl, hb4⟩; have HSX := Lib.hid (HSX.out.below hb4 (Nat.le_refl _)); have HOO := Lib.hid (apart_more HOO.out hb4.size); have HBW := Lib.hid (HBW.out.trans (hb4.mono HBW.out.size)); have HBS := Lib.hid (HBS.out.below hb4); clear hb4)
                  | ((with_reducible refine (HRU.out _ _ HBS.out.good (by have h1 := HBS.out.us; have h2 := HBS.out.lim; omega) HSX.out).mono ?_); rintro e w5 ⟨rfl, hb5⟩; have HSX := Lib.hid (HSX.out.below hb5 (Nat.le_refl _)); have HOO := Lib.hid (apart_more HOO.out hb5.size); have HBW := Lib.hid (HBW.out.trans (hb5.mono HBW.out.size)); have HBS := Lib.hid (HBS.out.below hb5); clear hb5)
                  | fail)
                go_roundw
                case rel => exact ⟨k + 1, bq, bn, by omega, by go_num, rfl, by rw [HT.out]; exact HBS.out, by rw [HT.out]; exact HSX.out, HOO.out, HPP.out, HBW.out⟩
                case measure => (simp [intOf]) <;> omega
              · have t1 : (xk == 1) = false := by simp [hk1]
                have t2 : (xk == 2) = false := by simp [hk2]
                have t3 : (xk == 3) = false := by simp [hk3]
                have t4 : (xk == 4) = false := by simp [hk4]
                have t5 : (xk == 5) = false := by simp [hk5]
                have t5 : (xk == 5) = false := by simp [hk5]
                have HT : Hid (playL (limOf limit) (ops.take (k + 1)) = lk) := Lib.hid (by rw [HT0.out]; rw [stepL, if_neg hk1, if_neg hk2, if_neg hk3, if_neg hk4])
                have HUS := Lib.hid (fun q r W (h : Bst W q r (limOf limit) lk) => used_any lk (limOf limit) q r W h)
                have HRU := Lib.hid (fun W v hg hu (h : Sl W 4 v (lk.map Bx.row)) => refUsed_any lk v W h hg hu)
                have HCP := Lib.hid (fun W (h : Bst W bp bm (limOf limit) lk) => bcopy_any lk (limOf limit) bp bm W h)
                have tu : (usedOf lk != usedOf lk) = false := by simp
                clear hk1 hk2 hk3 hk4 hk5
                go_wp2_with (first
                  | ((with_reducible refine (HUS.out _ _ _ HBS.out).mono ?_); rintro e w4 ⟨rfl, hb4⟩; have HSX := Lib.hid (HSX.out.below hb4 (Nat.le_refl _)); have HOO := Lib.hid (apart_more HOO.out hb4.size); have HBW := Lib.hid (HBW.out.trans (hb4.mono HBW.out.size)); have HBS := Lib.hid (HBS.out.below hb4); clear hb4)
                  | ((with_reducible refine (HRU.out _ _ HBS.out.good (by have h1 := HBS.out.us; have h2 := HBS.out.lim; omega) HSX.out).mono ?_); rintro e w5 ⟨rfl, hb5⟩; have HSX := Lib.hid (HSX.out.below hb5 (Nat.le_refl _)); have HOO := Lib.hid (apart_more HOO.out hb5.size); have HBW := Lib.hid (HBW.out.trans (hb5.mono HBW.out.size)); have HBS := Lib.hid (HBS.out.below hb5); clear hb5)
                  | fail)
                go_roundw
                case rel => exact ⟨k + 1, bp, bm, by omega, by go_num, rfl, by rw [HT.out]; exact HBS.out, by rw [HT.out]; exact HSX.out, HOO.out, HPP.out, HBW.out⟩
                case measure => (simp [intOf]) <;> omega
    · have HKE : Hid (ops.take k = ops) := Lib.hid (List.take_of_length_le (by omega))
      have HBS := Lib.hid hbs
      have HSX := Lib.hid hsv
      have HOO := Lib.hid hap
      clear hbel hbs hsv hap hpp
      go_wp2_with fail
      go_ret2
      exact ⟨bp, bm, _, rfl, by have := HBS.out; rwa [HKE.out] at this, by have := HSX.out; rwa [HKE.out] at this, HOO.out, HPP.out, HBEL.out⟩
end Go.Proofs.Ytehlhfcaajhhaaa.Sc
