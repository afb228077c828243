/- The chapter's example. -/
import Derived.Test.YtbmjficiceiekaaDoorBest16
import Derived.Test.YtbmjficiceiekaaDoorText16
namespace Go.Proofs.YtbmjficiceiekaaDoor.Sc
open Go Go.RowKit Go.ChangeShapes Go.WideShapes Go.ChangeAt
set_option maxRecDepth 100000

def awC : List Cl := [⟨⟨#[97]⟩, 1, 1, 2⟩, ⟨⟨#[98]⟩, 5, 5, 6⟩]
def awV (v : Value) : Vm := ⟨⟨#[115]⟩, v, awC⟩
theorem aw_clean (v : Value) : [awV v].map cleanV = [awV v] := by
  have h : mayV ⟨#[115]⟩ awC = true := by kernel_rfl
  show [cleanV (awV v)] = _
  rw [cleanV, awV, if_pos h]
theorem aw_best1 (v : Value) : bestR [awV v] ⟨#[97]⟩ ⟨#[98]⟩ 1 0 = some (5, [⟨0, 0, 1⟩]) := by
  have h1 : restV (roundsR [awV v] ⟨#[97]⟩ 0 1 1) ⟨#[97]⟩ 0 [awV v] 0 = [⟨0, 0, 1⟩] := by kernel_rfl
  have h2 : nextR [awV v] ⟨#[97]⟩ 0 (roundsR [awV v] ⟨#[97]⟩ 0 1 1) = roundsR [awV v] ⟨#[97]⟩ 0 1 1 := by
    unfold nextR
    rw [h1]
    exact overR_none _ _ _ fun p => by kernel_rfl
  have h3 : roundsR [awV v] ⟨#[97]⟩ 0 1 (1 + 7) = roundsR [awV v] ⟨#[97]⟩ 0 1 1 := rounds_stay h2 7
  have h4 : roundsR [awV v] ⟨#[97]⟩ 0 1 1 ⟨#[98]⟩ = some (5, [⟨0, 0, 1⟩]) := by kernel_rfl
  rw [bestR, if_neg (by decide), aw_clean]
  exact (congrFun h3 _).trans h4
theorem aw_best2 (v : Value) : bestR [awV v] ⟨#[97]⟩ ⟨#[98]⟩ 2 0 = none := by
  have h1 : restV (roundsR [awV v] ⟨#[97]⟩ 0 2 0) ⟨#[97]⟩ 0 [awV v] 0 = [] := by kernel_rfl
  have h2 : nextR [awV v] ⟨#[97]⟩ 0 (roundsR [awV v] ⟨#[97]⟩ 0 2 0) = roundsR [awV v] ⟨#[97]⟩ 0 2 0 := by
    unfold nextR
    rw [h1]
    exact overR_none _ _ _ fun p => rfl
  have h3 : roundsR [awV v] ⟨#[97]⟩ 0 2 (0 + 8) = roundsR [awV v] ⟨#[97]⟩ 0 2 0 := rounds_stay h2 8
  have h4 : roundsR [awV v] ⟨#[97]⟩ 0 2 0 ⟨#[98]⟩ = none := by kernel_rfl
  rw [bestR, if_neg (by decide), aw_clean]
  exact (congrFun h3 _).trans h4
theorem itoa_one {n : Nat} (h : n < 10) : Lib.itoa (n : Int) = [UInt8.ofNat (48 + n)] := by rw [Lib.itoa_nonneg, Lib.decDigits, dif_pos h]
theorem aw_text : textV ⟨#[115]⟩ awC = ⟨#[115, 32, 97, 64, 49, 45, 50, 47, 49, 32, 98, 64, 53, 45, 54, 47, 53]⟩ := by
  have h : mayV ⟨#[115]⟩ awC = true := by kernel_rfl
  have h1 : Lib.itoa (1 : Int) = [49] := itoa_one (n := 1) (by decide)
  have h2 : Lib.itoa (2 : Int) = [50] := itoa_one (n := 2) (by decide)
  have h5 : Lib.itoa (5 : Int) = [53] := itoa_one (n := 5) (by decide)
  have h6 : Lib.itoa (6 : Int) = [54] := itoa_one (n := 6) (by decide)
  rw [textV, if_pos h]
  simp only [textL, awC, List.flatMap_cons, List.flatMap_nil, clT, h1, h2, h5, h6]
  rfl
def awB (w : World) : World := w.alloc (.cells #[.string ⟨#[97]⟩, .int .i64 1, .int .i64 1, .int .i64 2, .string ⟨#[98]⟩, .int .i64 5, .int .i64 5, .int .i64 6] 39)
theorem aw_calls (w : World) : Sl (awB w) 4 (.slice (some ⟨w.heap.size, 0, none⟩) 2 2) (awC.map Cl.row) := by
  refine .inr ⟨w.heap.size, 0, 2, rfl, by simp [awB], by decide, by decide, fun i r hr j u hu => ?_⟩
  rw [awB, cell_new]
  match i, hr with
  | 0, hr => obtain rfl := (Option.some.inj hr).symm; match j, hu with
    | 0, hu => exact hu
    | 1, hu => exact hu
    | 2, hu => exact hu
    | 3, hu => exact hu
  | 1, hr => obtain rfl := (Option.some.inj hr).symm; match j, hu with
    | 0, hu => exact hu
    | 1, hu => exact hu
    | 2, hu => exact hu
    | 3, hu => exact hu
theorem bestP_below {W W0 : World} {r : Option (Int × List Lg)} (hb : Below W.heap.size W W0) (e : Ending) (w' : World) (h : BestP W0 r e w') : BestP W r e w' := by
  unfold BestP at h ⊢
  split at h
  · exact ⟨h.1, below_then hb h.2⟩
  · obtain ⟨v, he, hb2, hs⟩ := h
    exact ⟨v, he, below_then hb hb2, hs⟩
set_option maxHeartbeats 2000000 in
theorem aw_best (w W : World) (b : Nat) (hb : b = W.heap.size) (hW : Below (w.heap.size + 1) (awB w) W) (r : Int) (q : Option (Int × List Lg)) (hq : bestR [awV (.slice (some ⟨w.heap.size, 0, none⟩) 2 2)] ⟨#[97]⟩ ⟨#[98]⟩ r 0 = q) : Calls Tryd.prog 13 #[.slice (some ⟨b, 0, none⟩) 1 1, .string ⟨#[97]⟩, .string ⟨#[98]⟩, .int .i64 r, .int .i64 0] (W.alloc (.cells #[.string ⟨#[115]⟩, .slice (some ⟨w.heap.size, 0, none⟩) 2 2] 32))
    (BestP W q) := by
  subst hb
  have h0 := best_any [awV (.slice (some ⟨w.heap.size, 0, none⟩) 2 2)] (.slice (some ⟨W.heap.size, 0, none⟩) 1 1) ⟨#[97]⟩ ⟨#[98]⟩ r 0 (W.alloc (.cells #[.string ⟨#[115]⟩, .slice (some ⟨w.heap.size, 0, none⟩) 2 2] 32))
  rw [hq] at h0
  refine (h0 ⟨?_, ?_⟩ (by simp)).mono (bestP_below (one_below W _))
  · refine .inr ⟨W.heap.size, 0, 1, rfl, by simp, Nat.le_refl _, by decide, fun i r hr j u hu => ?_⟩
    rw [cell_new]
    match i, hr with
    | 0, hr => obtain rfl := (Option.some.inj hr).symm; match j, hu with
      | 0, hu => exact hu
      | 1, hu => exact hu
  · intro x hx
    obtain rfl := List.mem_singleton.1 hx
    have hz : (awB w).heap.size = w.heap.size + 1 := by simp [awB]
    exact (aw_calls w).below ((hz ▸ hW).trans ((one_below W _).mono (by have := hW.size; omega))) (by omega)
set_option maxHeartbeats 4000000 in
theorem awake_any (w : World) (ht : TabW w) : Calls Tryd.prog 10 #[] w (RetB w true) := by
  have hz : (awB w).heap.size = w.heap.size + 1 := by simp [awB]
  have HTX := Lib.hid (fun W (hW : Below (w.heap.size + 1) (awB w) W) => text_any ⟨#[115]⟩ (.slice (some ⟨w.heap.size, 0, none⟩) 2 2) awC W ((aw_calls w).below (hz ▸ hW) (by omega)) (ht.below ((show Below w.heap.size w (awB w) from one_below w _).trans (hW.mono (by omega)))))
  rw [aw_text] at HTX
  have HBX : Hid (((awB w).alloc (.cells #[.string ⟨#[115]⟩, .slice (some ⟨w.heap.size, 0, none⟩) 2 2] 32)).heap[w.heap.size + 1]? = some (.cells #[.string ⟨#[115]⟩, .slice (some ⟨w.heap.size, 0, none⟩) 2 2] 32 (0, 0))) := Lib.hid (by
    have := heap_alloc_new (awB w) (.cells #[.string ⟨#[115]⟩, .slice (some ⟨w.heap.size, 0, none⟩) 2 2] 32)
    rwa [hz] at this)
  have HB0 : Hid (Below (w.heap.size + 1) (awB w) ((awB w).alloc (.cells #[.string ⟨#[115]⟩, .slice (some ⟨w.heap.size, 0, none⟩) 2 2] 32))) := Lib.hid (hz ▸ one_below _ _)
  have H1 := Lib.hid (aw_best w ((awB w).alloc (.cells #[.string ⟨#[115]⟩, .slice (some ⟨w.heap.size, 0, none⟩) 2 2] 32)) (w.heap.size + 1 + 1) (by rw [size_al, hz]) HB0.out 1 _ (aw_best1 _))
  have H2 := Lib.hid (fun W (hW : Below (w.heap.size + 1) (awB w) W) => aw_best w W W.heap.size rfl hW 2 _ (aw_best2 _))
  have HZ := Lib.hid hz
  clear ht hz
  simp only [awB] at HBX H1
  go_enter Tryd.func10, Tryd.ntmps10
  go_wp2_with (first
    | ((with_reducible refine (H1.out).mono ?_); rintro e w1 ⟨v1, rfl, hb1, hs1⟩
       obtain ⟨a1, c1, rfl⟩ : ∃ a c, v1 = .slice a 1 c := by simpa using hs1.shape
       have HB1 := Lib.hid (HB0.out.trans (hb1.mono (by simp))); have HX1 := Lib.hid (blk hb1 (lt_blk HBX.out) HBX.out); have y0 := cell_blk HX1.out 0; have y1 := cell_blk HX1.out 1; have l1 := lt_blk HX1.out; clear hb1 hs1)
    | ((with_reducible refine (H2.out _ HB1.out).mono ?_); rintro e w2 ⟨rfl, hb2⟩
       have HB2 := Lib.hid (HB1.out.trans (hb2.mono (by have := HB1.out.size; have := HZ.out; omega))); have HX2 := Lib.hid (blk hb2 (lt_blk HX1.out) HX1.out); clear y0 y1 l1; have y0 := cell_blk HX2.out 0; have y1 := cell_blk HX2.out 1; clear hb2)
    | ((with_reducible refine (HTX.out _ HB2.out).mono ?_); rintro e w3 ⟨rfl, hb3⟩
       have HB3 := Lib.hid (HB2.out.trans (hb3.mono (by have := HB2.out.size; have := HZ.out; omega))); clear hb3)
    | fail)
  go_ret
  exact ⟨rfl, (show Below w.heap.size w (awB w) from one_below w _).trans (HB3.out.mono (by omega))⟩
end Go.Proofs.YtbmjficiceiekaaDoor.Sc
