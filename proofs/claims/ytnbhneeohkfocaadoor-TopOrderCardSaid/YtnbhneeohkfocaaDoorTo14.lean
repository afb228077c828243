/- Who pays at a stage; the buyer's costs; their sum. Costs parted by a closure. -/
import Derived.Test.YtnbhneeohkfocaaDoorTo13
import Derived.Shelf.Abstract
namespace Go.Proofs.YtnbhneeohkfocaaDoor.Sc
open Go Go.RowKit Go.ChangeShapes Go.WideShapes Go.ChangeAt
set_option maxRecDepth 100000

def whoB (b : Bool) : ByteArray := if b = true then ⟨#[98, 117, 121, 101, 114]⟩ else ⟨#[115, 101, 108, 108, 101, 114]⟩
theorem whose_any (t : Nat) (ht : t < 8) (s f : Int) (h0 : 0 ≤ s) (h7 : s ≤ 7) (w : World) : Calls Tryd.prog 84 #[.int .i64 (t : Int), .int .i64 s, .int .i64 f] w (fun e w' => e = .returned (.string (whoB (decide (f ≤ s)))) ∧ w' = w) := by
  have HI := Lib.hid (fun W => isTerm_yes t ht W)
  have HS := Lib.hid (fun W => isStage_yes s h0 h7 W)
  clear ht h0 h7
  by_cases h : f ≤ s
  · have t1 : decide (f ≤ s) = true := decide_eq_true h
    rw [t1]
    clear h
    go_enter Tryd.func84, Tryd.ntmps84
    go_wp2_with (first
      | ((with_reducible refine (HI.out _).mono ?_); rintro e w1 ⟨rfl, rfl⟩)
      | ((with_reducible refine (HS.out _).mono ?_); rintro e w2 ⟨rfl, rfl⟩)
      | fail)
    go_ret
    exact ⟨rfl, rfl⟩
  · have t1 : decide (f ≤ s) = false := decide_eq_false h
    rw [t1]
    clear h
    go_enter Tryd.func84, Tryd.ntmps84
    go_wp2_with (first
      | ((with_reducible refine (HI.out _).mono ?_); rintro e w1 ⟨rfl, rfl⟩)
      | ((with_reducible refine (HS.out _).mono ?_); rintro e w2 ⟨rfl, rfl⟩)
      | fail)
    go_ret
    exact ⟨rfl, rfl⟩
section
variable {nm : Nat → ByteArray} {co ri : Nat → Int}
theorem pays_any (t : Nat) (ht : t < 8) (s : Int) (h0 : 0 ≤ s) (h7 : s ≤ 7) (w : World) (h : TmW w nm co ri) : Calls Tryd.prog 73 #[.int .i64 (t : Int), .int .i64 s] w (Ret w (.string (whoB (decide (co t ≤ s))))) := by
  have HP := Lib.hid (passes_any t ht w h)
  have HW := Lib.hid (fun f W => whose_any t ht s f h0 h7 W)
  clear ht h0 h7 h
  go_enter Tryd.func73, Tryd.ntmps73
  go_wp2_with (first
    | ((with_reducible refine HP.out.mono ?_); rintro e w1 ⟨rfl, hb1⟩; have HB1 := Lib.hid hb1; clear hb1)
    | ((with_reducible refine (HW.out _ _).mono ?_); rintro e w2 ⟨rfl, rfl⟩)
    | fail)
  go_ret
  exact ⟨rfl, HB1.out⟩
/-- The closure of Split: is the cost the buyer's? -/
theorem buyers_any (t : Nat) (ht : t < 8) (x : Cst) (hx : mayC x = true) (b1 : Nat) (w : World) (h1 : w.cell? ⟨b1, 0, none⟩ = some (.int .i64 (t : Int))) (h : TmW w nm co ri) :
    Calls Tryd.prog 72 #[.agg x.cells, .pointer (some ⟨b1, 0, none⟩)] w (RetB w (decide (co t ≤ x.stg))) := by
  obtain ⟨xn, xs, xa⟩ := x
  have h0 : 0 ≤ xs ∧ xs ≤ 7 := by
    unfold mayC at hx
    simp only [Bool.and_eq_true, decide_eq_true_eq] at hx
    exact ⟨hx.2.1, hx.2.2.1⟩
  have HB := Lib.hid (one_below w (.cells #[.string xn, .int .i64 xs, .int .i64 xa] 119))
  have HP := Lib.hid (pays_any t ht xs h0.1 h0.2 _ (h.below HB.out))
  have h2 := (HB.out.cell (World.block_lt_of_cell? w _ h1)).trans h1
  simp only [Cst.cells]
  generalize decide (co t ≤ xs) = r at *
  clear ht hx h h0 h1
  go_enter Tryd.func72, Tryd.ntmps72
  cases r
  · have t1 : ((whoB false).toList == (⟨#[98, 117, 121, 101, 114]⟩ : ByteArray).toList) = false := by rw [str_beq]; exact decide_eq_false (by decide)
    go_wp2_with (first
      | ((with_reducible refine HP.out.mono ?_); rintro e w1 ⟨rfl, hb1⟩; have HB1 := Lib.hid (HB.out.trans (hb1.mono HB.out.size)); clear hb1)
      | fail)
    go_ret
    exact retB (by rw [ByteArray.toList_eq]; rfl) HB1.out
  · have t1 : ((whoB true).toList == (⟨#[98, 117, 121, 101, 114]⟩ : ByteArray).toList) = true := by rw [str_beq]; exact decide_eq_true (by decide)
    go_wp2_with (first
      | ((with_reducible refine HP.out.mono ?_); rintro e w1 ⟨rfl, hb1⟩; have HB1 := Lib.hid (HB.out.trans (hb1.mono HB.out.size)); clear hb1)
      | fail)
    go_ret
    exact retB (by rw [ByteArray.toList_eq]; rfl) HB1.out
end
def sumC : List Cst → Int
  | [] => 0
  | x :: r => x.am + sumC r
theorem sumC_app (a b : List Cst) : sumC (a ++ b) = sumC a + sumC b := by
  induction a with
  | nil => simp [sumC]
  | cons x r ih => rw [List.cons_append, sumC, sumC, ih]; omega
theorem mayC_am {x : Cst} (h : mayC x = true) : 0 ≤ x.am ∧ x.am ≤ 1099511627776 := by
  unfold mayC at h
  simp only [Bool.and_eq_true, decide_eq_true_eq] at h
  exact h.2.2.2
theorem sumC_le : ∀ {l : List Cst}, (∀ x ∈ l, mayC x = true) → 0 ≤ sumC l ∧ sumC l ≤ 1099511627776 * (l.length : Int)
  | [], _ => by simp [sumC]
  | x :: r, h => by
    have h1 := mayC_am (h x List.mem_cons_self)
    have h2 := sumC_le fun y hy => h y (List.mem_cons_of_mem _ hy)
    rw [sumC, List.length_cons]
    omega
set_option maxHeartbeats 4000000 in
theorem sumC_any (l : List Cst) (v : Value) (w : World) (hs : Sl w 3 v (l.map Cst.row)) (hok : ∀ x ∈ l, mayC x = true) (hl : l.length ≤ 12) : Calls Tryd.prog 52 #[v] w (Ret w (.int .i64 (sumC l))) := by
  obtain ⟨a, c, rfl⟩ : ∃ a c, v = .slice a l.length c := by simpa using hs.shape
  have HS := Lib.hid hs
  have HOK := Lib.hid hok
  clear hs hok
  go_enter Tryd.func52, Tryd.ntmps52
  go_wp2_with fail
  go_loopw [3, 5, 8] (fun s _ i wr => ∃ k : Nat, k ≤ l.length ∧ i = .int .i64 k ∧ s = .int .i64 (sumC (l.take k)) ∧ Below w.heap.size w wr) (fun _ _ i _ => l.length - (intOf i).toNat)
  case atStart => exact ⟨0, Nat.zero_le _, rfl, rfl, Below.refl _ _⟩
  case round =>
  obtain ⟨k, hk, rfl, rfl, hbel⟩ := hrel
  have HB := Lib.hid hbel
  by_cases hlt : k < l.length
  · obtain ⟨b, off, rfl, hb, hp⟩ := cst_at HS.out hlt
    obtain ⟨d0, d1, d2⟩ := hp.below hb hbel
    have tk : ((k : Nat) : Int) < (l.length : Int) := by omega
    have h1 := mayC_am (HOK.out _ (List.getElem_mem hlt))
    have h2 := sumC_le (l := l.take k) (fun x hx => HOK.out x (List.mem_of_mem_take hx))
    have hlk : ((l.take k).length : Int) ≤ 12 := by simp; omega
    have HTK : Hid (sumC (l.take (k + 1)) = sumC (l.take k) + l[k].am) := Lib.hid (by rw [List.take_succ_eq_append_getElem hlt, sumC_app]; simp [sumC])
    have HK := Lib.hid hlt
    generalize l[k] = x at *
    obtain ⟨xn, xs, xa⟩ := x
    simp only at d0 d1 d2 h1 HTK
    generalize sumC (l.take k) = s at *
    have e2 : wrap64 (s + xa) = s + xa := IntWalk.wrap64_in _ (by omega)
    have HE2 := Lib.hid e2
    clear hb hp hbel hk hlt h1 h2 hlk
    go_wp2_with fail
    go_roundw
    case rel => exact ⟨k + 1, by have := HK.out; omega, by go_num, by first | (rw [HTK.out, HE2.out]) | rw [HTK.out], HB.out.trans ((one_below _ _).mono HB.out.size)⟩
    case measure => (have := HK.out; simp [intOf]) <;> omega
  have hkl : k = l.length := by omega
  have tk : ¬ (((k : Nat) : Int) < (l.length : Int)) := by omega
  rw [hkl, List.take_length]
  clear hk hlt hbel hkl
  go_wp2_with fail
  go_ret
  exact ⟨rfl, HB.out⟩
end Go.Proofs.YtnbhneeohkfocaaDoor.Sc
namespace Go.Proofs.YtnbhneeohkfocaaDoor.Sc
open Go Go.RowKit Go.ChangeShapes Go.WideShapes Go.ChangeAt
set_option maxRecDepth 100000

theorem cstCells_one (x : Cst) : ∀ u ∈ (#[.string x.nm, .int .i64 x.stg, .int .i64 x.am] : Array Value).toList, u.oneCell' = true := fun u hu => cst_one x u hu
/-- The told ones ahead, then the others. -/
def SrtC (w : World) (f : Cst → Bool) (l : List Cst) (e : Ending) (w' : World) : Prop :=
  ∃ v1 v2, e = .returned (.tuple #[v1, v2]) ∧ Sl w' 3 v1 ((l.filter f).map Cst.row) ∧ Sl w' 3 v2 ((l.filter fun x => !f x).map Cst.row) ∧ Below w.heap.size w w'
theorem filter_snocC {l : List Cst} {k : Nat} (h : k < l.length) (f : Cst → Bool) : (l.take (k + 1)).filter f = if f l[k] = true then (l.take k).filter f ++ [l[k]] else (l.take k).filter f := by
  rw [List.take_succ_eq_append_getElem h, List.filter_append]
  by_cases hf : f l[k] = true
  · rw [if_pos hf]; simp [hf]
  · rw [if_neg hf]; simp [hf]
set_option maxHeartbeats 8000000 in
theorem sortedC_any (f : Cst → Bool) (g : Nat) (cb : Array Value) (l : List Cst) (v : Value) (w : World) (hs : Sl w 3 v (l.map Cst.row)) (hl : l.length ≤ 12) (eg : ∀ args w, (callFunc g args).run Tryd.prog w = .ok (.enter g args) w)
    (hcl : ∀ W (x : Cst), x ∈ l → Below w.heap.size w W → Calls Tryd.prog g (#[.agg x.cells] ++ cb) W (RetB W (f x))) :
    Calls Tryd.prog 71 #[v, .func (.func g) #[] cb] w (SrtC w f l) := by
  obtain ⟨a, c, rfl⟩ : ∃ a c, v = .slice a l.length c := by simpa using hs.shape
  obtain ⟨i0, hi, hz, hsz, hby⟩ := info_parts infoCst
  have HI := Lib.hid (And.intro hi (And.intro hz (And.intro hsz hby)))
  have HS := Lib.hid hs
  have HCL := Lib.hid hcl
  clear hs hcl hi hz hsz hby
  go_enter Tryd.func71, Tryd.ntmps71
  go_wp2_with fail
  go_loopw [4, 5, 7, 10] (fun v1 v2 _ i wr => ∃ k : Nat, k ≤ l.length ∧ i = .int .i64 k ∧ wr.ownsRow w.heap.size 119 3 v1 ((l.take k).filter f).length (cstCells ((l.take k).filter f)) ∧ wr.ownsRow w.heap.size 119 3 v2 ((l.take k).filter fun x => !f x).length (cstCells ((l.take k).filter fun x => !f x)) ∧
    (∀ b, v1.ownBlock = some b → ¬ v2.ownBlock = some b) ∧ Below w.heap.size w wr) (fun _ _ _ i _ => l.length - (intOf i).toNat)
  case atStart => exact ⟨0, Nat.zero_le _, rfl, ⟨rfl, .inl ⟨rfl, rfl⟩⟩, ⟨rfl, .inl ⟨rfl, rfl⟩⟩, fun b h => (by cases h), Below.refl _ _⟩
  case round =>
  obtain ⟨k, hk, rfl, ho1, ho2, hsep, hbel⟩ := hrel
  have HB := Lib.hid hbel
  have HO1 := Lib.hid ho1
  have HO2 := Lib.hid ho2
  have HSE := Lib.hid hsep
  by_cases hlt : k < l.length
  · obtain ⟨b, off, rfl, hb, hp⟩ := cst_at HS.out hlt
    obtain ⟨d0, d1, d2⟩ := hp.below hb hbel
    have tk : ((k : Nat) : Int) < (l.length : Int) := by omega
    have HF1 := Lib.hid (filter_snocC hlt f)
    have HF2 := Lib.hid (filter_snocC hlt (fun x => !f x))
    have HM := Lib.hid (fun W h => HCL.out W l[k] (List.getElem_mem hlt) h)
    have HK := Lib.hid hlt
    have hln : ((l.take k).filter f).length ≤ 12 ∧ ((l.take k).filter fun x => !f x).length ≤ 12 := by
      have h1 := List.length_filter_le f (l.take k)
      have h2 := List.length_filter_le (fun x => !f x) (l.take k)
      have h3 := List.length_take_le' k l
      omega
    have HLN := Lib.hid hln
    generalize l[k] = x at *
    generalize f x = r at *
    obtain ⟨xn, xs, xa⟩ := x
    simp only [Cst.cells] at d0 d1 d2 HM
    have HBX := Lib.hid (one_below wr (.cells #[.string xn, .int .i64 xs, .int .i64 xa] 119))
    have HXB := Lib.hid (heap_alloc_new wr (.cells #[.string xn, .int .i64 xs, .int .i64 xa] 119))
    have HBW := Lib.hid (HB.out.trans (HBX.out.mono HB.out.size))
    have HMX := Lib.hid (HM.out _ HBW.out)
    clear hb hp hbel hk hlt hln ho1 ho2 hsep
    cases r
    · have HG1 : Hid ((l.take (k + 1)).filter f = (l.take k).filter f) := Lib.hid (HF1.out.trans (if_neg (by decide)))
      have HG2 : Hid (((l.take (k + 1)).filter fun x => !f x) = ((l.take k).filter fun x => !f x) ++ [⟨xn, xs, xa⟩]) := Lib.hid (HF2.out.trans (if_pos rfl))
      go_upto_region 6 with (first
        | (go_at_fn g; refine HMX.out.mono ?_; rintro e w2 ⟨rfl, hb2⟩; have HB2 := Lib.hid (HBW.out.trans (hb2.mono HBW.out.size)); have HX2 := Lib.hid (blk hb2 (lt_blk HXB.out) HXB.out); have HP1 := Lib.hid (ownsRow_below (ownsRow_below HO1.out HBX.out) hb2); have HP2 := Lib.hid (ownsRow_below (ownsRow_below HO2.out HBX.out) hb2); clear hb2)
        | fail)
      have c0 := cell_blk HX2.out 0
      have c1 := cell_blk HX2.out 1
      have c2 := cell_blk HX2.out 2
      have HL4 : Hid (((l.take k).filter fun x => !f x).length + 1 ≤ maxLen ∧ (((l.take k).filter fun x => !f x).length + 1) * 32 ≤ 140737488355328 ∧ w.heap.size ≤ w2.heap.size) := Lib.hid ⟨by have := HLN.out; simp only [maxLen]; omega, by have := HLN.out; omega, HB2.out.size⟩
      go_wp2_with (first
        | (((with_reducible refine Any.wpl_push ?_ ?_ ?_ Tryd.underlying26 HI.out.1 HI.out.2.1 HI.out.2.2.1 HI.out.2.2.2 ?_ (by decide) ?_ ((cstCells_one ⟨xn, xs, xa⟩)) (HP2.out) HL4.out.1 HL4.out.2.1 HL4.out.2.2 ?_); rfl; rfl; rfl; rfl; rfl; intro v4 w4 hown4 hgrow4 hwho4))
        | fail)
      have HO3 : Hid (w4.ownsRow w.heap.size 119 3 u4 ((l.take k).filter f).length (cstCells ((l.take k).filter f))) := Lib.hid (ownsRow_keep HP1.out (Keep.of_grown hgrow4) (fun b h e => HSE.out b h e))
      have HSE4 : Hid (∀ b, u4.ownBlock = some b → ¬ v4.ownBlock = some b) := Lib.hid (fun b h1 h2 => by
        rcases hwho4 b h2 with h3 | h3
        · exact HSE.out b h1 h3
        · have := (HP1.out.lt b h1).2; omega)
      have HB4 : Hid (Below w.heap.size w w4) := Lib.hid (HB2.out.grown hgrow4 HB2.out.size (fun q hq => (HP2.out.lt q hq).1))
      have HO4 := Lib.hid hown4
      clear hown4 hgrow4 hwho4 c0 c1 c2
      go_roundw
      case rel => exact ⟨k + 1, by have := HK.out; omega, by go_num, by rw [HG1.out]; exact HO3.out, by rw [HG2.out, List.length_append, cstCells_append]; exact HO4.out, HSE4.out, HB4.out⟩
      case measure => (have := HK.out; simp [intOf]) <;> omega
    · have HG1 : Hid ((l.take (k + 1)).filter f = (l.take k).filter f ++ [⟨xn, xs, xa⟩]) := Lib.hid (HF1.out.trans (if_pos rfl))
      have HG2 : Hid (((l.take (k + 1)).filter fun x => !f x) = ((l.take k).filter fun x => !f x)) := Lib.hid (HF2.out.trans (if_neg (by decide)))
      go_upto_region 5 with (first
        | (go_at_fn g; refine HMX.out.mono ?_; rintro e w2 ⟨rfl, hb2⟩; have HB2 := Lib.hid (HBW.out.trans (hb2.mono HBW.out.size)); have HX2 := Lib.hid (blk hb2 (lt_blk HXB.out) HXB.out); have HP1 := Lib.hid (ownsRow_below (ownsRow_below HO1.out HBX.out) hb2); have HP2 := Lib.hid (ownsRow_below (ownsRow_below HO2.out HBX.out) hb2); clear hb2)
        | fail)
      have c0 := cell_blk HX2.out 0
      have c1 := cell_blk HX2.out 1
      have c2 := cell_blk HX2.out 2
      have HL4 : Hid (((l.take k).filter f).length + 1 ≤ maxLen ∧ (((l.take k).filter f).length + 1) * 32 ≤ 140737488355328 ∧ w.heap.size ≤ w2.heap.size) := Lib.hid ⟨by have := HLN.out; simp only [maxLen]; omega, by have := HLN.out; omega, HB2.out.size⟩
      go_wp2_with (first
        | (((with_reducible refine Any.wpl_push ?_ ?_ ?_ Tryd.underlying26 HI.out.1 HI.out.2.1 HI.out.2.2.1 HI.out.2.2.2 ?_ (by decide) ?_ ((cstCells_one ⟨xn, xs, xa⟩)) (HP1.out) HL4.out.1 HL4.out.2.1 HL4.out.2.2 ?_); rfl; rfl; rfl; rfl; rfl; intro v4 w4 hown4 hgrow4 hwho4))
        | fail)
      have HO3 : Hid (w4.ownsRow w.heap.size 119 3 u5 ((l.take k).filter fun x => !f x).length (cstCells ((l.take k).filter fun x => !f x))) := Lib.hid (ownsRow_keep HP2.out (Keep.of_grown hgrow4) (fun b h e => HSE.out b e h))
      have HSE4 : Hid (∀ b, v4.ownBlock = some b → ¬ u5.ownBlock = some b) := Lib.hid (fun b h1 h2 => by
        rcases hwho4 b h1 with h3 | h3
        · exact HSE.out b h3 h2
        · have := (HP2.out.lt b h2).2; omega)
      have HB4 : Hid (Below w.heap.size w w4) := Lib.hid (HB2.out.grown hgrow4 HB2.out.size (fun q hq => (HP1.out.lt q hq).1))
      have HO4 := Lib.hid hown4
      clear hown4 hgrow4 hwho4 c0 c1 c2
      go_roundw
      case rel => exact ⟨k + 1, by have := HK.out; omega, by go_num, by rw [HG1.out, List.length_append, cstCells_append]; exact HO4.out, by rw [HG2.out]; exact HO3.out, HSE4.out, HB4.out⟩
      case measure => (have := HK.out; simp [intOf]) <;> omega
  · have hkl : k = l.length := by omega
    have tk : ¬ (((k : Nat) : Int) < (l.length : Int)) := by omega
    rw [hkl, List.take_length] at HO1 HO2
    clear hk hlt hbel hkl ho1 ho2 hsep
    go_wp2_with fail
    go_ret2
    exact ⟨_, _, rfl, own_csts HO1.out rfl, own_csts HO2.out rfl, HB.out⟩
end Go.Proofs.YtnbhneeohkfocaaDoor.Sc
