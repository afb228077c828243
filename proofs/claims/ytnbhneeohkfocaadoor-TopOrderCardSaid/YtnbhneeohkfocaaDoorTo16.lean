/- What an order costs landed: parts, Landed. Landed. Each: each line's part of what an order costs landed; by the program. -/
import Derived.Test.YtnbhneeohkfocaaDoorTo15
import Derived.Test.YtnbhneeohkfocaaDoorTo10
namespace Go.Proofs.YtnbhneeohkfocaaDoor.Sc
open Go Go.RowKit Go.ChangeShapes Go.WideShapes Go.ChangeAt
set_option maxRecDepth 100000

/-- An order's total, the buyer's costs, an error. -/
def prtE (co : Nat → Int) (mb : Bool) (tm : Int) (L : List Ln) (l : List Cst) : Int × Int × Int :=
  if (totE mb L).2 ≠ 0 then (0, 0, (totE mb L).2) else if l.all mayC = false then (0, 0, 1) else
    if 1099511627776 < (totE mb L).1 + sumC (buyC co tm.toNat l) then (0, 0, 3) else ((totE mb L).1, sumC (buyC co tm.toNat l), 0)
theorem totE_err {mb : Bool} {L : List Ln} (h : (totE mb L).2 = 0) : mb = true ∧ totE mb L = (totO L, 0) ∧ totO L ≤ 1099511627776 := by
  unfold totE at *
  cases mb
  · simp at h
  · by_cases h1 : 1099511627776 < totO L
    · simp [h1] at h
    · exact ⟨rfl, by simp [h1], by omega⟩
section
variable {nm : Nat → ByteArray} {co ri : Nat → Int}
set_option maxHeartbeats 8000000 in
theorem parts_any (hnm : ∀ t, t < 8 → (nm t).toList.isEmpty = false) (s0 s1 s2 s3 s4 s5 : ByteArray) (tm : Int) (L : List Ln) (v : Value) (l : List Cst) (u : Value) (w : World) (hs : Sl w 3 v (L.map Ln.row)) (hu : Sl w 3 u (l.map Cst.row)) (hl : l.length ≤ 12) (h : TmW w nm co ri) :
    Calls Tryd.prog 27 #[.agg #[.string s0, .string s1, .string s2, .string s3, .string s4, .string s5, .int .i64 tm, v], u] w
      (Ret w (.tuple #[.int .i64 (prtE co (mayO s0 s1 s2 s3 s4 s5 tm L) tm L l).1, .int .i64 (prtE co (mayO s0 s1 s2 s3 s4 s5 tm L) tm L l).2.1, .int .i64 (prtE co (mayO s0 s1 s2 s3 s4 s5 tm L) tm L l).2.2])) := by
  obtain ⟨a, c, rfl⟩ : ∃ a c, v = .slice a L.length c := by simpa using hs.shape
  have HBX := Lib.hid (one_below w (.cells #[.string s0, .string s1, .string s2, .string s3, .string s4, .string s5, .int .i64 tm, .slice a L.length c] 24))
  have HXB := Lib.hid (heap_alloc_new w (.cells #[.string s0, .string s1, .string s2, .string s3, .string s4, .string s5, .int .i64 tm, .slice a L.length c] 24))
  have HT := Lib.hid (total_any s0 s1 s2 s3 s4 s5 tm L _ _ (hs.below HBX.out (Nat.le_refl _)))
  have HK := Lib.hid (fun h => mayO_ok (s0 := s0) (s1 := s1) (s2 := s2) (s3 := s3) (s4 := s4) (s5 := s5) (tm := tm) (L := L) h)
  have HL := Lib.hid hl
  generalize mayO s0 s1 s2 s3 s4 s5 tm L = mb at *
  have HP : Hid (prtE co mb tm L l = if (totE mb L).2 ≠ 0 then (0, 0, (totE mb L).2) else if l.all mayC = false then (0, 0, 1) else if 1099511627776 < (totE mb L).1 + sumC (buyC co tm.toNat l) then (0, 0, 3) else ((totE mb L).1, sumC (buyC co tm.toNat l), 0)) := Lib.hid rfl
  generalize prtE co mb tm L l = pr at *
  by_cases he : (totE mb L).2 ≠ 0
  · have t1 : ((totE mb L).2 != 0) = true := by simp [he]
    rw [if_pos he] at HP
    generalize (totE mb L).2 = e0 at *
    generalize (totE mb L).1 = a0 at *
    clear hs hu h he hl
    go_enter Tryd.func27, Tryd.ntmps27
    go_wp2_with (first
      | ((with_reducible refine HT.out.mono ?_); rintro e w2 ⟨rfl, hb2⟩; have HB2 := Lib.hid (HBX.out.trans (hb2.mono HBX.out.size)); clear hb2)
      | fail)
    go_ret3
    exact ⟨by rw [HP.out]; rfl, HB2.out⟩
  · have he := Decidable.not_not.1 he
    obtain ⟨hmb, hte, htl⟩ := totE_err he
    obtain ⟨hok, -, ht0, ht7⟩ := HK.out hmb
    obtain ⟨t, htm⟩ : ∃ t : Nat, tm = (t : Int) := ⟨tm.toNat, by omega⟩
    subst htm
    rw [if_neg (by simp [he])] at HP
    rw [hte] at HT HP
    simp only [Int.toNat_natCast] at HP
    have ht8 : t < 8 := by omega
    have HSP := Lib.hid (fun W (hb : Below w.heap.size w W) => splitC_any (nm := nm) (co := co) (ri := ri) t ht8 (hnm t ht8) l u W (hu.below hb (Nat.le_refl _)) hl (h.below hb))
    have htn := totO_le (L := L) (fun x hx => worth_le (hok.c0 x hx) (hok.p0 x hx))
    have HSU := Lib.hid (fun (hal : l.all mayC = true) v W (hs : Sl W 3 v ((buyC co t l).map Cst.row)) => sumC_any (buyC co t l) v W hs (fun x hx => List.all_eq_true.1 hal x (List.mem_filter.1 hx).1) (Nat.le_trans (List.length_filter_le _ _) hl))
    have HSB := Lib.hid (fun (hal : l.all mayC = true) => sumC_le (l := buyC co t l) (fun x hx => List.all_eq_true.1 hal x (List.mem_filter.1 hx).1))
    have HBL : Hid ((buyC co t l).length ≤ 12) := Lib.hid (Nat.le_trans (List.length_filter_le _ _) hl)
    generalize sumC (buyC co t l) = sc at *
    generalize totO L = T at *
    clear hs hu h he hl hte hmb hok ht0 ht7 HK ht8
    cases hal : l.all mayC
    · rw [if_pos hal] at HP
      have HF : Hid (∀ W, Below w.heap.size w W → Calls Tryd.prog 51 #[.int .i64 (t : Int), u] W (fun e w' => e = .returned (.tuple #[.slice none 0 0, .slice none 0 0, .int .i64 1]) ∧ Below W.heap.size W w')) := Lib.hid (fun W hb => (HSP.out W hb).mono (by
        rintro e w' (⟨h1, -⟩ | ⟨-, h2, h3⟩)
        · rw [hal] at h1; cases h1
        · exact ⟨h2, h3⟩))
      clear hal HSP HSU HSB
      go_enter Tryd.func27, Tryd.ntmps27
      go_wp2_with (first
        | ((with_reducible refine HT.out.mono ?_); rintro e w2 ⟨rfl, hb2⟩; have HB2 := Lib.hid (HBX.out.trans (hb2.mono HBX.out.size)); have x6 := cell_blk (blk hb2 (lt_blk HXB.out) HXB.out) 6; clear hb2)
        | ((with_reducible refine (HF.out _ HB2.out).mono ?_); rintro e w3 ⟨rfl, hb3⟩; have HB3 := Lib.hid (HB2.out.trans (hb3.mono HB2.out.size)); clear hb3)
        | fail)
      go_ret3
      exact ⟨by rw [HP.out]; rfl, HB3.out⟩
    · rw [if_neg (by simp [hal])] at HP
      have HF : Hid (∀ W, Below w.heap.size w W → Calls Tryd.prog 51 #[.int .i64 (t : Int), u] W (fun e w' => ∃ v1 v2, e = .returned (.tuple #[v1, v2, .int .i64 0]) ∧ Sl w' 3 v2 ((buyC co t l).map Cst.row) ∧ Below W.heap.size W w')) := Lib.hid (fun W hb => (HSP.out W hb).mono (by
        rintro e w' (⟨-, h2⟩ | ⟨h1, -⟩)
        · exact h2
        · rw [hal] at h1; cases h1))
      have HS2 := Lib.hid (HSU.out hal)
      have hsb := HSB.out hal
      have hbl := HBL.out
      have e2 : wrap64 (T + sc) = T + sc := IntWalk.wrap64_in _ (by omega)
      clear hal HSP HSU HSB htl htn hsb hbl HBL
      by_cases hq : 1099511627776 < T + sc
      · have t1 : decide (1099511627776 < T + sc) = true := decide_eq_true hq
        rw [if_pos hq] at HP
        clear hq
        go_enter Tryd.func27, Tryd.ntmps27
        go_wp2_with (first
          | ((with_reducible refine HT.out.mono ?_); rintro e w2 ⟨rfl, hb2⟩; have HB2 := Lib.hid (HBX.out.trans (hb2.mono HBX.out.size)); have x6 := cell_blk (blk hb2 (lt_blk HXB.out) HXB.out) 6; clear hb2)
          | ((with_reducible refine (HF.out _ HB2.out).mono ?_); rintro e w3 ⟨v1, v2, rfl, hs2, hb3⟩; have HB3 := Lib.hid (HB2.out.trans (hb3.mono HB2.out.size)); have HV2 := Lib.hid hs2; clear hb3 hs2)
          | ((with_reducible refine (HS2.out v2 _ HV2.out).mono ?_); rintro e w4 ⟨rfl, hb4⟩; have HB4 := Lib.hid (HB3.out.trans (hb4.mono HB3.out.size)); clear hb4)
          | fail)
        go_ret3
        exact ⟨by rw [HP.out]; rfl, HB4.out⟩
      · have t1 : decide (1099511627776 < T + sc) = false := decide_eq_false hq
        rw [if_neg hq] at HP
        clear hq
        go_enter Tryd.func27, Tryd.ntmps27
        go_wp2_with (first
          | ((with_reducible refine HT.out.mono ?_); rintro e w2 ⟨rfl, hb2⟩; have HB2 := Lib.hid (HBX.out.trans (hb2.mono HBX.out.size)); have x6 := cell_blk (blk hb2 (lt_blk HXB.out) HXB.out) 6; clear hb2)
          | ((with_reducible refine (HF.out _ HB2.out).mono ?_); rintro e w3 ⟨v1, v2, rfl, hs2, hb3⟩; have HB3 := Lib.hid (HB2.out.trans (hb3.mono HB2.out.size)); have HV2 := Lib.hid hs2; clear hb3 hs2)
          | ((with_reducible refine (HS2.out v2 _ HV2.out).mono ?_); rintro e w4 ⟨rfl, hb4⟩; have HB4 := Lib.hid (HB3.out.trans (hb4.mono HB3.out.size)); clear hb4)
          | fail)
        go_ret3
        exact ⟨by rw [HP.out]; rfl, HB4.out⟩
end
end Go.Proofs.YtnbhneeohkfocaaDoor.Sc
namespace Go.Proofs.YtnbhneeohkfocaaDoor.Sc
open Go Go.RowKit Go.ChangeShapes Go.WideShapes Go.ChangeAt
set_option maxRecDepth 100000

section
variable {nm : Nat → ByteArray} {co ri : Nat → Int}
/-- What Landed tells of the parts. -/
def lanE (p : Int × Int × Int) : Int × Int := if p.2.2 ≠ 0 then (0, p.2.2) else (p.1 + p.2.1, 0)
theorem prtE_bd (co : Nat → Int) (mb : Bool) (tm : Int) (L : List Ln) (l : List Cst) (h : (prtE co mb tm L l).2.2 = 0) : mb = true ∧ l.all mayC = true ∧ (prtE co mb tm L l).1 = totO L ∧ (prtE co mb tm L l).2.1 = sumC (buyC co tm.toNat l) ∧ totO L ≤ 1099511627776 ∧ totO L + sumC (buyC co tm.toNat l) ≤ 1099511627776 := by
  unfold prtE at *
  by_cases he : (totE mb L).2 ≠ 0
  · rw [if_pos he] at h
    exact absurd h he
  · rw [if_neg he] at h ⊢
    obtain ⟨h1, h2, h3⟩ := totE_err (Decidable.not_not.1 he)
    rw [h2] at h ⊢
    cases hal : l.all mayC
    · rw [if_pos hal] at h
      simp at h
    · have hn : ¬ l.all mayC = false := by simp [hal]
      rw [if_neg hn] at h
      rw [if_neg (show ¬ true = false by decide)]
      by_cases hq : 1099511627776 < totO L + sumC (buyC co tm.toNat l)
      · rw [if_pos hq] at h
        simp at h
      · rw [if_neg hq]
        exact ⟨h1, rfl, rfl, rfl, h3, by omega⟩
set_option maxHeartbeats 4000000 in
theorem landed_any (hnm : ∀ t, t < 8 → (nm t).toList.isEmpty = false) (s0 s1 s2 s3 s4 s5 : ByteArray) (tm : Int) (L : List Ln) (v : Value) (l : List Cst) (u : Value) (w : World) (hs : Sl w 3 v (L.map Ln.row)) (hu : Sl w 3 u (l.map Cst.row)) (hl : l.length ≤ 12) (h : TmW w nm co ri) :
    Calls Tryd.prog 10 #[.agg #[.string s0, .string s1, .string s2, .string s3, .string s4, .string s5, .int .i64 tm, v], u] w
      (Ret w (.tuple #[.int .i64 (lanE (prtE co (mayO s0 s1 s2 s3 s4 s5 tm L) tm L l)).1, .int .i64 (lanE (prtE co (mayO s0 s1 s2 s3 s4 s5 tm L) tm L l)).2])) := by
  obtain ⟨a, c, rfl⟩ : ∃ a c, v = .slice a L.length c := by simpa using hs.shape
  have HBX := Lib.hid (one_below w (.cells #[.string s0, .string s1, .string s2, .string s3, .string s4, .string s5, .int .i64 tm, .slice a L.length c] 24))
  have HXB := Lib.hid (heap_alloc_new w (.cells #[.string s0, .string s1, .string s2, .string s3, .string s4, .string s5, .int .i64 tm, .slice a L.length c] 24))
  have HP := Lib.hid (parts_any (co := co) (ri := ri) hnm s0 s1 s2 s3 s4 s5 tm L _ l u _ (hs.below HBX.out (Nat.le_refl _)) (hu.below HBX.out (Nat.le_refl _)) hl (h.below HBX.out))
  have hbd := prtE_bd co (mayO s0 s1 s2 s3 s4 s5 tm L) tm L l
  have hok : mayO s0 s1 s2 s3 s4 s5 tm L = true → 0 ≤ totO L := fun hm => (totO_le (fun x hx => worth_le ((mayO_ok hm).1.c0 x hx) ((mayO_ok hm).1.p0 x hx))).1
  have hsc : l.all mayC = true → 0 ≤ sumC (buyC co tm.toNat l) := fun hal => (sumC_le (l := buyC co tm.toNat l) (fun x hx => List.all_eq_true.1 hal x (List.mem_filter.1 hx).1)).1
  generalize prtE co (mayO s0 s1 s2 s3 s4 s5 tm L) tm L l = p at *
  obtain ⟨p1, p2, p3⟩ := p
  simp only [lanE] at hbd HP ⊢
  clear hs hu h hl hnm
  by_cases he : p3 ≠ 0
  · have t1 : (p3 != 0) = true := by simp [he]
    rw [if_pos he]
    clear he hbd hok hsc
    go_enter Tryd.func10, Tryd.ntmps10
    go_wp2_with (first
      | ((with_reducible refine HP.out.mono ?_); rintro e w2 ⟨rfl, hb2⟩; have HB2 := Lib.hid (HBX.out.trans (hb2.mono HBX.out.size)); clear hb2)
      | fail)
    go_ret2
    exact ⟨rfl, HB2.out⟩
  · have h0 : p3 = 0 := Decidable.not_not.1 he
    obtain ⟨g1, g2, g3, g4, g5, g6⟩ := hbd h0
    have g7 := hok g1
    have g8 := hsc g2
    rw [← g3] at g5 g6 g7
    rw [← g4] at g6 g8
    subst h0
    have e2 : wrap64 (p1 + p2) = p1 + p2 := IntWalk.wrap64_in _ (by omega)
    have HE2 := Lib.hid e2
    rw [if_neg he]
    clear he hbd hok hsc g1 g2 g3 g4 g5 g6 g7 g8
    go_enter Tryd.func10, Tryd.ntmps10
    go_wp2_with (first
      | ((with_reducible refine HP.out.mono ?_); rintro e w2 ⟨rfl, hb2⟩; have HB2 := Lib.hid (HBX.out.trans (hb2.mono HBX.out.size)); clear hb2)
      | fail)
    go_ret2
    exact ⟨by first | rfl | (rw [HE2.out]; rfl), HB2.out⟩
end
end Go.Proofs.YtnbhneeohkfocaaDoor.Sc
namespace Go.Proofs.YtnbhneeohkfocaaDoor.Sc
open Go Go.RowKit Go.ChangeShapes Go.WideShapes Go.ChangeAt
set_option maxRecDepth 100000

/-- What a line is worth, and what it weighs. -/
def wF (L : List Ln) (j : Nat) : Int := match L[j]? with | some x => x.worth | none => 0
def hF (T : Int) (L : List Ln) (j : Nat) : Int := match L[j]? with | some x => if T = 0 then x.cnt else x.worth | none => 0
theorem wF_at {L : List Ln} {j : Nat} (h : j < L.length) : wF L j = L[j].worth := by simp [wF, h]
theorem hF_at (T : Int) {L : List Ln} {j : Nat} (h : j < L.length) : hF T L j = if T = 0 then L[j].cnt else L[j].worth := by simp [hF, h]
theorem sumQ_wF (L : List Ln) : ∀ k, k ≤ L.length → sumQ (wF L) k = totO (L.take k)
  | 0, _ => by simp [sumQ, totO]
  | k + 1, h => by
    rw [sumQ, sumQ_wF L k (by omega), List.take_succ_eq_append_getElem (show k < L.length by omega), totO_app, wF_at (by omega)]
    simp [totO]
theorem totO_mem {L : List Ln} (h : ∀ x ∈ L, 0 ≤ x.worth ∧ x.worth ≤ 1125899906842624) {x : Ln} (hx : x ∈ L) : x.worth ≤ totO L := by
  induction L with
  | nil => cases hx
  | cons y r ih =>
    have h1 := h y List.mem_cons_self
    have h2 := (totO_le (L := r) fun z hz => h z (List.mem_cons_of_mem _ hz)).1
    rw [totO]
    rcases List.mem_cons.1 hx with rfl | hx
    · omega
    · have := ih (fun z hz => h z (List.mem_cons_of_mem _ hz)) hx
      omega
theorem sumQ_pos {f : Nat → Int} : ∀ {n : Nat}, (∀ j, j < n → 1 ≤ f j) → (n : Int) ≤ sumQ f n
  | 0, _ => by simp [sumQ]
  | n + 1, h => by
    have h1 := sumQ_pos (f := f) (n := n) fun j hj => h j (by omega)
    have h2 := h n (by omega)
    rw [sumQ]; omega
theorem sumQ_congr {f g : Nat → Int} : ∀ {n : Nat}, (∀ j, j < n → f j = g j) → sumQ f n = sumQ g n
  | 0, _ => rfl
  | n + 1, h => by rw [sumQ, sumQ, sumQ_congr (n := n) fun j hj => h j (by omega), h n (by omega)]
theorem sumQ_add (f g : Nat → Int) : ∀ n, sumQ (fun j => f j + g j) n = sumQ f n + sumQ g n
  | 0 => rfl
  | n + 1 => by rw [sumQ, sumQ, sumQ, sumQ_add f g n]; omega
/-- The weights that Split is asked with. -/
def hL (T : Int) (L : List Ln) : List Int := (List.range L.length).map (hF T L)
theorem hL_ok {L : List Ln} (h : LnsOk L) (ht : totO L ≤ 1099511627776) : (∀ x ∈ hL (totO L) L, 0 ≤ x ∧ x ≤ 1099511627776) ∧ 0 < sumI (hL (totO L) L) := by
  have hw : ∀ x ∈ L, 0 ≤ x.worth ∧ x.worth ≤ 1125899906842624 := fun x hx => worth_le (h.c0 x hx) (h.p0 x hx)
  refine ⟨fun x hx => ?_, ?_⟩
  · obtain ⟨j, hj, rfl⟩ := List.mem_map.1 hx
    have hj := List.mem_range.1 hj
    rw [hF_at _ hj]
    have h1 := h.c0 _ (List.getElem_mem hj)
    have h2 := hw _ (List.getElem_mem hj)
    have h3 := totO_mem hw (List.getElem_mem hj)
    split <;> omega
  · rw [hL, sumI_range]
    by_cases e : totO L = 0
    · have := sumQ_pos (f := hF (totO L) L) (n := L.length) fun j hj => by rw [hF_at _ hj, if_pos e]; exact (h.c0 _ (List.getElem_mem hj)).1
      have := h.lo
      omega
    · rw [sumQ_congr (g := wF L) fun j hj => by rw [hF_at _ hj, if_neg e, wF_at hj], sumQ_wF L _ (Nat.le_refl _), List.take_length]
      have := (totO_le hw).1
      omega
/-- The two rows that Each makes. -/
structure Ea (w wr : World) (q1 q2 n : Nat) (P R : Array Value) : Prop where
  below : Below w.heap.size w wr
  hp : wr.heap[q1]? = some (.cells P 2 (0, 0))
  hr : wr.heap[q2]? = some (.cells R 2 (0, 0))
  lq : w.heap.size ≤ q1
  qq : q1 < q2
  sp : P.size = n
  sr : R.size = n
section
variable {w wr : World} {q1 q2 n : Nat} {P R : Array Value}
theorem Ea.on (h : Ea w wr q1 q2 n P R) {w' : World} (hb : Below wr.heap.size wr w') : Ea w w' q1 q2 n P R :=
  ⟨h.below.trans (hb.mono h.below.size), blk hb (lt_blk h.hp) h.hp, blk hb (lt_blk h.hr) h.hr, h.lq, h.qq, h.sp, h.sr⟩
theorem Ea.drew (h : Ea w wr q1 q2 n P R) : Ea w wr.drew q1 q2 n P R := ⟨h.below.drew, h.hp, h.hr, h.lq, h.qq, h.sp, h.sr⟩
theorem Ea.setP (h : Ea w wr q1 q2 n P R) (k : Nat) (u : Value) : Ea w (wr.setCell ⟨q1, k, none⟩ u) q1 q2 n (P.setIfInBounds k u) R := by
  have h1 := h.lq; have h2 := h.qq
  exact ⟨h.below.setCell (p := ⟨q1, k, none⟩) h1 u, set_raw4 h.hp k u, (Below.heap_setCell wr ⟨q1, k, none⟩ u q2 (by show q2 ≠ q1; omega)).trans h.hr, h1, h2, by simp [h.sp], h.sr⟩
theorem Ea.setR (h : Ea w wr q1 q2 n P R) (k : Nat) (u : Value) : Ea w (wr.setCell ⟨q2, k, none⟩ u) q1 q2 n P (R.setIfInBounds k u) := by
  have h1 := h.lq; have h2 := h.qq
  exact ⟨h.below.setCell (p := ⟨q2, k, none⟩) (by show _ ≤ q2; omega) u, (Below.heap_setCell wr ⟨q2, k, none⟩ u q1 (by show q1 ≠ q2; omega)).trans h.hp, set_raw4 h.hr k u, h1, h2, h.sp, by simp [h.sr]⟩
end
/-- What lies in a row of which the first k are laid. -/
def Upto (f : Nat → Int) (n k : Nat) (P : Array Value) : Prop := ∀ j, j < n → P[j]? = some (.int .i64 (if j < k then f j else 0))
theorem Upto.start (f : Nat → Int) (n : Nat) : Upto f n 0 (madeCells #[.int .i64 0] n) := fun j h => by rw [made_at h]; simp
theorem Upto.step {f : Nat → Int} {n k : Nat} {P : Array Value} (h : Upto f n k P) (hk : k < n) (hs : P.size = n) : Upto f n (k + 1) (P.setIfInBounds k (.int .i64 (f k))) := set_at h hk hs
theorem Upto.step2 {f : Nat → Int} {n k : Nat} {P : Array Value} (u : Value) (h : Upto f n k P) (hk : k < n) (hs : P.size = n) : Upto f n (k + 1) ((P.setIfInBounds k u).setIfInBounds k (.int .i64 (f k))) := by
  have e : (P.setIfInBounds k u).setIfInBounds k (.int .i64 (f k)) = P.setIfInBounds k (.int .i64 (f k)) := by
    apply Array.ext_getElem?
    intro j
    simp only [Array.getElem?_setIfInBounds, Array.size_setIfInBounds]
    split <;> rfl
  rw [e]
  exact h.step hk hs
/-- A row of numbers of its own as a slice. -/
theorem sl_ints {w : World} {q n : Nat} {l : List Int} (h : w.heap[q]? = some (.cells (l.map fun x => Value.int .i64 x).toArray 2 (0, 0))) (hl : l.length = n) (hm : n ≤ maxLen) : Sl w 1 (.slice (some ⟨q, 0, none⟩) n n) (l.map nRow) := by
  refine .inr ⟨q, 0, n, by rw [List.length_map, hl], lt_blk h, by rw [List.length_map, hl]; exact Nat.le_refl _, hm, fun i r hi j u hj => ?_⟩
  rw [List.getElem?_map] at hi
  cases hx : l[i]? with
  | none => rw [hx] at hi; cases hi
  | some x =>
    rw [hx] at hi
    cases hi
    match j, hj with
    | 0, hj =>
      cases hj
      rw [cell_blk h]
      simp [hx]
    | j + 1, hj => cases hj
/-- While the worths are added. -/
structure Eb (w wr : World) (pa q1 n : Nat) (A P : Array Value) : Prop where
  below : Below w.heap.size w wr
  ha : wr.heap[pa]? = some (.cells A 2 (0, 0))
  hp : wr.heap[q1]? = some (.cells P 2 (0, 0))
  lo : w.heap.size ≤ pa
  qp : q1 < pa
  sa : A.size = n
section
variable {w wr : World} {pa q1 n : Nat} {A P : Array Value}
theorem Eb.drew (h : Eb w wr pa q1 n A P) : Eb w wr.drew pa q1 n A P := ⟨h.below.drew, h.ha, h.hp, h.lo, h.qp, h.sa⟩
theorem Eb.setA (h : Eb w wr pa q1 n A P) (k : Nat) (u : Value) : Eb w (wr.setCell ⟨pa, k, none⟩ u) pa q1 n (A.setIfInBounds k u) P := by
  have h1 := h.lo; have h2 := h.qp
  exact ⟨h.below.setCell (p := ⟨pa, k, none⟩) h1 u, set_raw4 h.ha k u, (Below.heap_setCell wr ⟨pa, k, none⟩ u q1 (by show q1 ≠ pa; omega)).trans h.hp, h1, h2, by simp [h.sa]⟩
end
def Adds (f g : Nat → Int) (n k : Nat) (A : Array Value) : Prop := ∀ j, j < n → A[j]? = some (.int .i64 (if j < k then f j + g j else f j))
theorem Adds.step {f g : Nat → Int} {n k : Nat} {A : Array Value} (h : Adds f g n k A) (hk : k < n) (hs : A.size = n) : Adds f g n (k + 1) (A.setIfInBounds k (.int .i64 (f k + g k))) := by
  intro j hj
  rw [Array.getElem?_setIfInBounds]
  by_cases e : k = j
  · subst e; rw [if_pos rfl, if_pos (by omega), if_pos (by omega)]
  · rw [if_neg e, h j hj]
    by_cases e2 : j < k
    · rw [if_pos e2, if_pos (by omega)]
    · rw [if_neg e2, if_neg (by omega)]
/-- What Each tells of the parts. -/
def EachP (w : World) (pr : Int × Int × Int) (n : Nat) (e : Ending) (w' : World) : Prop :=
  Below w.heap.size w w' ∧ ((pr.2.2 ≠ 0 ∧ e = .returned (.tuple #[.slice none 0 0, .int .i64 pr.2.2])) ∨
    (pr.2.2 = 0 ∧ ∃ (p : Nat) (out : List Int), e = .returned (.tuple #[.slice (some ⟨p, 0, none⟩) n n, .int .i64 0]) ∧ w'.heap[p]? = some (.cells (out.map fun x => Value.int .i64 x).toArray 2 (0, 0)) ∧ out.length = n ∧ sumI out = pr.1 + pr.2.1 ∧ ∀ x ∈ out, 0 ≤ x))
section
variable {nm : Nat → ByteArray} {co ri : Nat → Int}
set_option maxHeartbeats 16000000 in
theorem each_any (hnm : ∀ t, t < 8 → (nm t).toList.isEmpty = false) (s0 s1 s2 s3 s4 s5 : ByteArray) (tm : Int) (L : List Ln) (v : Value) (l : List Cst) (u : Value) (w : World) (hs : Sl w 3 v (L.map Ln.row)) (hu : Sl w 3 u (l.map Cst.row)) (hl : l.length ≤ 12) (hL12 : L.length ≤ 12) (h : TmW w nm co ri) :
    Calls Tryd.prog 11 #[.agg #[.string s0, .string s1, .string s2, .string s3, .string s4, .string s5, .int .i64 tm, v], u] w (EachP w (prtE co (mayO s0 s1 s2 s3 s4 s5 tm L) tm L l) L.length) := by
  obtain ⟨a, c, rfl⟩ : ∃ a c, v = .slice a L.length c := by simpa using hs.shape
  have HBX := Lib.hid (one_below w (.cells #[.string s0, .string s1, .string s2, .string s3, .string s4, .string s5, .int .i64 tm, .slice a L.length c] 24))
  have HXB := Lib.hid (heap_alloc_new w (.cells #[.string s0, .string s1, .string s2, .string s3, .string s4, .string s5, .int .i64 tm, .slice a L.length c] 24))
  have HP := Lib.hid (parts_any (co := co) (ri := ri) hnm s0 s1 s2 s3 s4 s5 tm L _ l u _ (hs.below HBX.out (Nat.le_refl _)) (hu.below HBX.out (Nat.le_refl _)) hl (h.below HBX.out))
  have hbd := prtE_bd co (mayO s0 s1 s2 s3 s4 s5 tm L) tm L l
  have hok : mayO s0 s1 s2 s3 s4 s5 tm L = true → LnsOk L := fun hm => (mayO_ok hm).1
  have hsc : l.all mayC = true → 0 ≤ sumC (buyC co tm.toNat l) := fun hal => (sumC_le (l := buyC co tm.toNat l) (fun x hx => List.all_eq_true.1 hal x (List.mem_filter.1 hx).1)).1
  have HS := Lib.hid hs
  generalize prtE co (mayO s0 s1 s2 s3 s4 s5 tm L) tm L l = p at *
  obtain ⟨T, C, p3⟩ := p
  simp only at hbd HP
  clear hs hu h hl hnm
  by_cases he : p3 ≠ 0
  · have t1 : (p3 != 0) = true := by simp [he]
    have HE := Lib.hid he
    clear he hbd hok hsc
    go_enter Tryd.func11, Tryd.ntmps11
    go_wp2_with (first
      | ((with_reducible refine HP.out.mono ?_); rintro e w2 ⟨rfl, hb2⟩; have HB2 := Lib.hid (HBX.out.trans (hb2.mono HBX.out.size)); clear hb2)
      | fail)
    go_ret2
    exact ⟨HB2.out, .inl ⟨HE.out, rfl⟩⟩
  · have h0 : p3 = 0 := Decidable.not_not.1 he
    obtain ⟨g1, g2, g3, g4, g5, g6⟩ := hbd h0
    have HOK := Lib.hid (hok g1)
    have g8 := hsc g2
    subst h0
    rw [← g4] at g6 g8
    clear he hbd hok hsc g1 g2 g4
    have g7 := (totO_le (L := L) (fun x hx => worth_le (HOK.out.c0 x hx) (HOK.out.p0 x hx))).1
    have HHL := Lib.hid (hL_ok HOK.out g5)
    rw [← g3] at g5 g6 g7 HHL
    have HT : Hid (totO L = T) := Lib.hid g3.symm
    have HTC : Hid (0 ≤ T ∧ 0 ≤ C ∧ T + C ≤ 1099511627776) := Lib.hid (by omega)
    have hmk1 := run_make_row' (P := Tryd.prog) 46 2 (.int .i64 0) 8 Tryd.underlying46 infoI64 rfl .i64 .i64 L.length (by omega) (by omega)
    clear g3 g5 g6 g7 g8
    go_enter Tryd.func11, Tryd.ntmps11
    go_upto_region 4 with (first
      | ((with_reducible refine HP.out.mono ?_); rintro e w2 ⟨rfl, hb2⟩; have HB2 := Lib.hid (HBX.out.trans (hb2.mono HBX.out.size)); have HX2 := Lib.hid (blk hb2 (lt_blk HXB.out) HXB.out); clear hb2)
      | fail)
    have c7 := cell_blk HX2.out 7
    have c7b : (w2.alloc (.cells (madeCells #[.int .i64 0] L.length) 2)).cell? ⟨w.heap.size, 7, none⟩ = some (.slice a L.length c) := cell_blk (blk (one_below _ _) (lt_blk HX2.out) HX2.out) 7
    have c7c : ((w2.alloc (.cells (madeCells #[.int .i64 0] L.length) 2)).alloc (.cells (madeCells #[.int .i64 0] L.length) 2)).cell? ⟨w.heap.size, 7, none⟩ = some (.slice a L.length c) := cell_blk (blk (one_below _ _) (Nat.lt_of_lt_of_le (lt_blk HX2.out) (by simp)) (blk (one_below _ _) (lt_blk HX2.out) HX2.out)) 7
    go_upto_region 6 with fail
    have HEA : Hid (Ea w ((w2.alloc (.cells (madeCells #[.int .i64 0] L.length) 2)).alloc (.cells (madeCells #[.int .i64 0] L.length) 2)) w2.heap.size (w2.heap.size + 1) L.length (madeCells #[.int .i64 0] L.length) (madeCells #[.int .i64 0] L.length)) := Lib.hid (by
      have hsz := HB2.out.size
      refine ⟨(HB2.out.trans ((one_below _ _).mono HB2.out.size)).trans ((one_below _ _).mono (by simp <;> omega)), blk (one_below _ _) (by simp) (heap_alloc_new _ _), ?_, hsz, by omega, size_madeCells _ _, size_madeCells _ _⟩
      have := heap_alloc_new (w2.alloc (.cells (madeCells #[.int .i64 0] L.length) 2)) (.cells (madeCells #[.int .i64 0] L.length) 2)
      simpa using this)
    clear hmk1 c7 c7b
    generalize ((w2.alloc (.cells (madeCells #[.int .i64 0] L.length) 2)).alloc (.cells (madeCells #[.int .i64 0] L.length) 2)) = W0 at *
    obtain ⟨q1, hq1⟩ : ∃ q, q = w2.heap.size := ⟨_, rfl⟩
    obtain ⟨q2, hq2⟩ : ∃ q, q = w2.heap.size + 1 := ⟨_, rfl⟩
    rw [← hq2] at HEA ⊢
    rw [← hq1] at HEA ⊢
    clear hq1 hq2
    go_wp2_with fail
    clear c7c
    go_loopw [11, 12, 36] (fun _ _ i wr => ∃ (k : Nat) (P R : Array Value), k ≤ L.length ∧ i = .int .i64 k ∧ Ea w wr q1 q2 L.length P R ∧ Upto (wF L) L.length k P ∧ Upto (hF T L) L.length k R) (fun _ _ i _ => L.length - (intOf i).toNat)
    case atStart => exact ⟨0, _, _, Nat.zero_le _, rfl, HEA.out, Upto.start _ _, Upto.start _ _⟩
    case round =>
    obtain ⟨k, P, R, hk, rfl, hea, hup, hur⟩ := hrel
    have HEA := Lib.hid hea
    have HUP := Lib.hid hup
    have HUR := Lib.hid hur
    by_cases hlt : k < L.length
    · obtain ⟨b, off, rfl, hb, h0, h1, h2⟩ := ln_at HS.out hlt
      have d0 := (hea.below.cell (p := ⟨b, off + k * 3, none⟩) hb).trans h0
      have d1 := (hea.below.cell (p := ⟨b, off + k * 3 + 1, none⟩) hb).trans h1
      have d2 := (hea.below.cell (p := ⟨b, off + k * 3 + 2, none⟩) hb).trans h2
      have tk : ((k : Nat) : Int) < (L.length : Int) := by omega
      have hw := worth_le (HOK.out.c0 _ (List.getElem_mem hlt)) (HOK.out.p0 _ (List.getElem_mem hlt))
      have HWF := Lib.hid (wF_at hlt)
      have HHF := Lib.hid (hF_at T hlt)
      have HK := Lib.hid hlt
      generalize L[k] = x at *
      obtain ⟨xg, xc, xp⟩ := x
      simp only [Ln.worth] at d0 d1 d2 hw HWF HHF
      obtain ⟨m, hm⟩ : ∃ m, xc * xp = m := ⟨_, rfl⟩
      rw [hm] at hw HWF HHF
      have e1 : wrap64 (xc * xp) = m := by rw [hm]; exact IntWalk.wrap64_in _ (by omega)
      obtain ⟨lb, hlb⟩ : ∃ b, b = wr.heap.size := ⟨_, rfl⟩
      have HLB := Lib.hid (heap_alloc_new wr (.cells #[.string xg, .int .i64 xc, .int .i64 xp] 34))
      have HE8 := Lib.hid (hea.on (one_below wr (.cells #[.string xg, .int .i64 xc, .int .i64 xp] 34)))
      have l2 : q2 < lb := hlb ▸ lt_blk hea.hr
      have l1 := hea.qq
      have HLT : Hid (lb = wr.heap.size) := Lib.hid hlb
      clear hea hup hur hb h0 h1 h2 hk hlt hw hm hlb
      go_upto_region 9 with fail
      clear d0 d1 d2
      rw [← HLT.out] at HLB ⊢
      clear HLT
      generalize wr.alloc (.cells #[.string xg, .int .i64 xc, .int .i64 xp] 34) = w8 at *
      have c1 := cell_blk HLB.out 1
      have c2 := cell_blk HLB.out 2
      have p0 := cell_blk HE8.out.hp k
      rw [HUP.out k HK.out, if_neg (Nat.lt_irrefl _)] at p0
      have r0 := cell_blk HE8.out.hr k
      rw [HUR.out k HK.out, if_neg (Nat.lt_irrefl _)] at r0
      have f1 := free_blk HE8.out.hp k
      have f2 := free_blk HE8.out.hr k
      by_cases hz : T = 0
      · have t1 : (T == 0) = true := by simp [hz]
        rw [if_pos hz] at HHF
        clear hz
        go_wp2_with fail
        go_roundw
        case rel => exact ⟨k + 1, _, _, by have := HK.out; omega, by go_num, ((HE8.out.setP k (.int .i64 m)).setR k (.int .i64 m)).setR k (.int .i64 xc), HWF.out ▸ HUP.out.step HK.out HE8.out.sp, HHF.out ▸ HUR.out.step2 (.int .i64 m) HK.out HE8.out.sr⟩
        case measure => (have := HK.out; simp [intOf]) <;> omega
      · have t1 : (T == 0) = false := by simp [hz]
        rw [if_neg hz] at HHF
        clear hz
        go_wp2_with fail
        go_roundw
        case rel => exact ⟨k + 1, _, _, by have := HK.out; omega, by go_num, (HE8.out.setP k (.int .i64 m)).setR k (.int .i64 m), HWF.out ▸ HUP.out.step HK.out HE8.out.sp, HHF.out ▸ HUR.out.step HK.out HE8.out.sr⟩
        case measure => (have := HK.out; simp [intOf]) <;> omega
    obtain rfl : k = L.length := by omega
    have tk : ¬ (((L.length : Nat) : Int) < (L.length : Int)) := by omega
    have hPe : P = (((List.range L.length).map (wF L)).map fun x => Value.int .i64 x).toArray := cells_eq hea.sp (fun j hj => by rw [hup j hj, if_pos hj])
    have hRe : R = ((hL T L).map fun x => Value.int .i64 x).toArray := cells_eq hea.sr (fun j hj => by rw [hur j hj, if_pos hj])
    have hrr := hea.hr
    rw [hRe] at hrr
    have HSP : Hid (Calls Tryd.prog 12 #[.int .i64 C, .slice (some ⟨q2, 0, none⟩) L.length L.length] wr (SpzP wr C L.length)) := Lib.hid (by
      have hlen : (hL T L).length = L.length := by simp [hL]
      have := splitO_any C (hL T L) (.slice (some ⟨q2, 0, none⟩) L.length L.length) wr (sl_ints hrr hlen (by simp only [maxLen]; omega)) HTC.out.2.1 (by have := HTC.out; omega) (by rw [hlen]; exact HOK.out.lo) (by rw [hlen]; omega) HHL.out.1 HHL.out.2
      rw [hlen] at this
      exact this)
    clear hea hup hur hPe hRe hrr hk hlt
    go_wp2_with (first
      | ((with_reducible refine HSP.out.mono ?_); rintro e w9 ⟨hb9, pa, out, hpa, rfl, hca, hlo, hso, hno⟩
         have HE9 := Lib.hid (HEA.out.on hb9)
         have HPA : Hid (q1 < pa ∧ w.heap.size ≤ pa) := Lib.hid (by have := lt_blk HEA.out.hp; have := HEA.out.below.size; omega)
         have HCA := Lib.hid hca
         have HLO := Lib.hid hlo
         have HSO := Lib.hid hso
         have HNO := Lib.hid hno
         clear hb9 hpa hca hlo hso hno)
      | fail)
    have HEB : Hid (Eb w w9 pa q1 L.length (out.map fun x => Value.int .i64 x).toArray P) := Lib.hid ⟨HE9.out.below, HCA.out, HE9.out.hp, HPA.out.2, HPA.out.1, by simp [HLO.out]⟩
    have HAD : Hid (Adds (fun j => out.getD j 0) (wF L) L.length 0 (out.map fun x => Value.int .i64 x).toArray) := Lib.hid (fun j hj => by
      have hj' : j < out.length := by rw [HLO.out]; exact hj
      simp [hj'])
    have HOB : Hid (∀ j, j < L.length → 0 ≤ out.getD j 0 ∧ out.getD j 0 ≤ C) := Lib.hid (fun j hj => by
      have hj' : j < out.length := by rw [HLO.out]; exact hj
      rw [getD_lt hj']
      refine ⟨HNO.out _ (List.getElem_mem hj'), ?_⟩
      have hge : ∀ l : List Int, (∀ x ∈ l, 0 ≤ x) → 0 ≤ sumI l := by
        intro l
        induction l with
        | nil => intro _; exact Int.le_refl _
        | cons y r ih => intro h; have := h y List.mem_cons_self; have := ih fun x hx => h x (List.mem_cons_of_mem _ hx); simp only [sumI]; omega
      have h1 : sumI out = sumI (out.take j) + (out[j] + sumI (out.drop (j + 1))) := by
        conv => lhs; rw [← List.take_append_drop j out]
        rw [sumI_app, List.drop_eq_getElem_cons hj', sumI]
      have h2 := hge (out.take j) fun x hx => HNO.out x (List.mem_of_mem_take hx)
      have h3 := hge (out.drop (j + 1)) fun x hx => HNO.out x (List.mem_of_mem_drop hx)
      have h4 := HSO.out
      omega)
    have HWB : Hid (∀ j, j < L.length → 0 ≤ wF L j ∧ wF L j ≤ T) := Lib.hid (fun j hj => by
      have hw : ∀ x ∈ L, 0 ≤ x.worth ∧ x.worth ≤ 1125899906842624 := fun x hx => worth_le (HOK.out.c0 x hx) (HOK.out.p0 x hx)
      rw [wF_at hj, ← HT.out]
      exact ⟨(hw _ (List.getElem_mem hj)).1, totO_mem hw (List.getElem_mem hj)⟩)
    clear tk
    go_loopw [14, 75] (fun _ i wx => ∃ (k : Nat) (A : Array Value), k ≤ L.length ∧ i = .int .i64 k ∧ Eb w wx pa q1 L.length A P ∧ Adds (fun j => out.getD j 0) (wF L) L.length k A) (fun _ i _ => L.length - (intOf i).toNat)
    case atStart => exact ⟨0, _, Nat.zero_le _, rfl, HEB.out, HAD.out⟩
    case round =>
    obtain ⟨k, A, hk, rfl, heb, had⟩ := hrel
    have HEB := Lib.hid heb
    have HAD := Lib.hid had
    by_cases hlt : k < L.length
    · have a0 := cell_blk heb.ha k
      rw [had k hlt, if_neg (Nat.lt_irrefl _)] at a0
      have p0 := cell_blk heb.hp k
      rw [HUP.out k hlt, if_pos hlt] at p0
      have f1 := free_blk heb.ha k
      have l1 := heb.qp
      have hx := HOB.out k hlt
      have hy := HWB.out k hlt
      have htc := HTC.out
      have HK := Lib.hid hlt
      have HST := Lib.hid (had.step hlt heb.sa)
      have tk : ((k : Nat) : Int) < (L.length : Int) := by omega
      simp only at a0 HST
      generalize out.getD k 0 = x at *
      generalize wF L k = y at *
      have e2 : IntKind.i64.wrap (x + y) = x + y := IntWalk.i64_in _ (by omega)
      clear heb had hk hlt hx hy htc
      go_upto_region 20 with fail
      go_region
      go_wp2_with fail
      go_roundw
      case rel => exact ⟨k + 1, _, by have := HK.out; omega, by go_num, (HEB.out.setA k _).drew, HST.out⟩
      case measure => (have := HK.out; simp [intOf]) <;> omega
    obtain rfl : k = L.length := by omega
    have tk : ¬ (((L.length : Nat) : Int) < (L.length : Int)) := by omega
    have hAe : A = (((List.range L.length).map fun j => out.getD j 0 + wF L j).map fun x => Value.int .i64 x).toArray := cells_eq heb.sa (fun j hj => by rw [had j hj, if_pos hj])
    have hae := heb.ha
    rw [hAe] at hae
    have HAE := Lib.hid hae
    clear heb had hAe hae hk hlt
    go_wp2_with fail
    go_ret2
    refine ⟨HEB.out.below, .inr ⟨rfl, pa, _, rfl, HAE.out, by simp, ?_, fun x hx => ?_⟩⟩
    · rw [sumI_range, sumQ_add, sumQ_wF L _ (Nat.le_refl _), List.take_length, HT.out]
      have h1 : sumQ (fun j => out.getD j 0) L.length = sumI out := by
        rw [← sumI_range]
        congr 1
        apply List.ext_getElem
        · simp [HLO.out]
        · intro i h1 h2
          simp [h2]
      rw [h1, HSO.out]
      simp only
      omega
    · obtain ⟨j, hj, rfl⟩ := List.mem_map.1 hx
      have hj := List.mem_range.1 hj
      have h1 := HOB.out j hj
      have h2 := HWB.out j hj
      omega
end
/-- What Each tells, whatever the error: parts that add up to what Landed tells. -/
def EachQ (w : World) (ln : Int × Int) (n : Nat) (e : Ending) (w' : World) : Prop :=
  ∃ (a : Option Addr) (c : Nat) (out : List Int), e = .returned (.tuple #[.slice a out.length c, .int .i64 ln.2]) ∧ Sl w' 1 (.slice a out.length c) (out.map nRow) ∧ sumI out = ln.1 ∧ (∀ x ∈ out, 0 ≤ x) ∧ out.length ≤ n ∧ Below w.heap.size w w'
theorem each_q {w : World} {pr : Int × Int × Int} {n : Nat} {e : Ending} {w' : World} (h : EachP w pr n e w') (hn : n ≤ maxLen) : EachQ w (lanE pr) n e w' := by
  obtain ⟨hb, ⟨hne, rfl⟩ | ⟨hz, p, out, rfl, hc, hl, hs, h0⟩⟩ := h
  · refine ⟨none, 0, [], by rw [lanE, if_pos hne]; rfl, .inl ⟨rfl, none, 0, rfl, fun _ => rfl⟩, by rw [lanE, if_pos hne]; rfl, fun x hx => (by cases hx), Nat.zero_le _, hb⟩
  · have h2 : ¬ pr.2.2 ≠ 0 := fun h => h hz
    subst hl
    exact ⟨some ⟨p, 0, none⟩, out.length, out, by rw [lanE, if_neg h2], sl_ints hc rfl hn, by rw [lanE, if_neg h2, hs], h0, Nat.le_refl _, hb⟩
end Go.Proofs.YtnbhneeohkfocaaDoor.Sc
