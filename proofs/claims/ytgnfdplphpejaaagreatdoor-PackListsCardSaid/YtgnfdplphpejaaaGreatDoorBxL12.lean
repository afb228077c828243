/- boxes: by the law's own function. A row of own boxes as any boxes. -/
import Derived.Test.YtgnfdplphpejaaaGreatDoorAwPk12
import Derived.Test.YtgnfdplphpejaaaGreatDoorRefGo12
namespace Go.Proofs.YtgnfdplphpejaaaGreatDoor.Sc
open Go Go.RowKit Go.ChangeShapes Go.WideShapes Go.ChangeAt
set_option maxRecDepth 100000

/-- Of boxes: their lots are few, and small. -/
structure BxFew (l : List Bv) : Prop where
  len : l.length ≤ 65
  lots : ∀ x ∈ l, x.b.lots.length ≤ 41
  cnt : ∀ x ∈ l, ∀ y ∈ x.b.lots, y.cnt ≤ 1099511627776
def lotsV (l : List Bv) : List Lt := allLots (l.map Bv.b)
theorem lotsV_snoc {l : List Bv} {k : Nat} (h : k < l.length) : lotsV (l.take (k + 1)) = lotsV (l.take k) ++ l[k].b.lots := by
  rw [List.take_succ_eq_append_getElem h, lotsV, List.map_append, allLots_append, ← lotsV]
  simp [allLots]
theorem lotsV_len : ∀ (l : List Bv), (∀ x ∈ l, x.b.lots.length ≤ 41) → (lotsV l).length ≤ 41 * l.length
  | [], _ => by simp [lotsV, allLots]
  | x :: r, h => by
    have h1 := lotsV_len r fun y hy => h y (List.mem_cons_of_mem _ hy)
    have h2 := h x List.mem_cons_self
    show (x.b.lots ++ lotsV r).length ≤ _
    rw [List.length_append, List.length_cons]
    omega
theorem BxFew.take {l : List Bv} (h : BxFew l) (k : Nat) : (lotsV (l.take k)).length ≤ 2665 := by
  have h1 := lotsV_len (l.take k) fun x hx => h.lots x (List.mem_of_mem_take hx)
  have h2 : (l.take k).length ≤ 65 := by rw [List.length_take]; have := h.len; omega
  omega
theorem BxFew.all {l : List Bv} (h : BxFew l) : ∀ y ∈ lotsV l, y.cnt ≤ 1099511627776 := fun y hy => by
  obtain ⟨b, hb, hyb⟩ := List.mem_flatMap.1 hy
  obtain ⟨x, hx, rfl⟩ := List.mem_map.1 hb
  exact h.cnt x hx y hyb
set_option maxHeartbeats 8000000 in
theorem content_any (l : List Bv) (v : Value) (w : World) (h : BoxesAt w v l) (hf : BxFew l) :
    Calls Tryz.prog 18 #[v] w (RetRow w 38 2 (joinL (lotsV l)).length (ltCells (joinL (lotsV l)))) := by
  obtain ⟨a, c, rfl⟩ : ∃ a c, v = .slice a l.length c := by simpa using h.1.shape
  obtain ⟨i0, hi, hz, hsz, hby⟩ := info_parts infoLt
  have HI := Lib.hid (And.intro hi (And.intro hz (And.intro hsz hby)))
  have HN := Lib.hid h
  have HF := Lib.hid hf
  have hll : l.length ≤ 65 := hf.len
  clear h hf hi hz hsz hby
  go_enter Tryz.func18, Tryz.ntmps18
  go_wp2_with fail
  go_loopw [3, 5, 8] (fun r _ i wr => ∃ k : Nat, k ≤ l.length ∧ i = .int .i64 k ∧ wr.ownsRow w.heap.size 38 2 r (lotsV (l.take k)).length (ltCells (lotsV (l.take k))) ∧ Below w.heap.size w wr) (fun _ _ i _ => l.length - (intOf i).toNat)
  case atStart => exact ⟨0, Nat.zero_le _, rfl, World.ownsRow_nil _ _ _ _, Below.refl _ _⟩
  case round =>
    obtain ⟨k, hk, rfl, hown, hbel⟩ := hrel
    have HBEL := Lib.hid hbel
    by_cases hlt : k < l.length
    rotate_left
    · obtain rfl : k = l.length := by omega
      rw [List.take_of_length_le (Nat.le_refl _)] at hown
      obtain ⟨a9, c9, rfl⟩ := Ord.row_slice hown
      have HJ := Lib.hid (join_any (lotsV l) _ wr (own_lots hown rfl) (by have := HF.out.take l.length; rw [List.take_of_length_le (Nat.le_refl _)] at this; omega) HF.out.all)
      clear hown hbel
      go_wp2_with (first
        | ((with_reducible refine HJ.out.mono ?_); rintro e w1 ⟨v1, rfl, ho1, hb1⟩; have HB1 := Lib.hid hb1; have HO1 := Lib.hid ho1; clear ho1 hb1)
        | fail)
      go_ret
      exact retRow HO1.out HBEL.out.size (HBEL.out.trans (HB1.out.mono HBEL.out.size))
    · obtain ⟨b, off, rfl, -, hb, hc⟩ := HN.out.1.at (i := k) (by simpa using hlt)
      have d0 : wr.cell? ⟨b, off + k * 3, none⟩ = some (.string l[k].b.mark) := (hbel.cell (p := ⟨b, off + k * 3, none⟩) hb).trans (hc k l[k].cells (by simp [hlt]) 0 _ rfl)
      have d1 : wr.cell? ⟨b, off + k * 3 + 1, none⟩ = some (.int .i64 l[k].b.kind) := (hbel.cell (p := ⟨b, off + k * 3 + 1, none⟩) hb).trans (hc k l[k].cells (by simp [hlt]) 1 _ rfl)
      have d2 : wr.cell? ⟨b, off + k * 3 + 2, none⟩ = some l[k].v := (hbel.cell (p := ⟨b, off + k * 3 + 2, none⟩) hb).trans (hc k l[k].cells (by simp [hlt]) 2 _ rfl)
      have hx := (HN.out.2 l[k] (List.getElem_mem hlt)).below hbel (Nat.le_refl _)
      have hxl := HF.out.lots l[k] (List.getElem_mem hlt)
      have hsn := lotsV_snoc hlt
      have htk := HF.out.take k
      generalize l[k] = x at *
      obtain ⟨⟨xm, xk, xl⟩, xv⟩ := x
      simp only at d0 d1 d2 hx hxl hsn
      obtain ⟨ax, cx, rfl⟩ : ∃ a c, xv = .slice a xl.length c := by simpa using hx.shape
      have al := one_below wr (.cells #[.string xm, .int .i64 xk, .slice ax xl.length cx] 45)
      have HSRC : Hid (Src (wr.alloc (.cells #[.string xm, .int .i64 xk, .slice ax xl.length cx] 45)) 2 (.slice ax xl.length cx) xl.length (ltCells xl)) := Lib.hid (src_lots (hx.below al (Nat.le_refl _)))
      have HOWN := Lib.hid (show (wr.alloc (.cells #[.string xm, .int .i64 xk, .slice ax xl.length cx] 45)).ownsRow w.heap.size 38 2 _ (lotsV (l.take k)).length (ltCells (lotsV (l.take k))) from hown.alloc _)
      have HBA := Lib.hid (hbel.trans (al.mono hbel.size))
      have HSN := Lib.hid hsn
      generalize lotsV (l.take k) = P at *
      have HLE : Hid (P.length + xl.length ≤ maxLen ∧ (P.length + xl.length) * 24 ≤ 140737488355328) := Lib.hid (by simp only [maxLen]; omega)
      clear hown hbel hb hc hx hsn al htk hxl
      go_wp2_with (first
        | ((with_reducible refine Any.wpl_cat ?_ ?_ ?_ Tryz.underlying23 HI.out.1 HI.out.2.1 HI.out.2.2.1 HI.out.2.2.2 ?_ (by decide) HOWN.out HSRC.out (ltCells_one _) HLE.out.1 HLE.out.2 HBA.out.size ?_); rfl; rfl; rfl; rfl; intro v2 w2 hown2 hgrow2 hwho2; rw [← ltCells_append, ← List.length_append] at hown2; have HOW2 := Lib.hid hown2; have HB2 := Lib.hid (HBA.out.grown hgrow2 HBA.out.size (fun k hk => (HOWN.out.lt k hk).1)); clear hown2 hgrow2 hwho2; go_frame)
        | fail)
      go_roundw
      case rel => exact ⟨k + 1, by omega, by go_num, by rw [HSN.out]; exact HOW2.out, HB2.out⟩
      case measure => (simp [intOf]) <;> omega
set_option maxHeartbeats 8000000 in
theorem refContent_any (l : List Bv) (v : Value) (w : World) (h : BoxesAt w v l) (hf : BxFew l) :
    Calls Tryz.prog 23 #[v] w (RetRow w 38 2 (joinL (lotsV l)).length (ltCells (joinL (lotsV l)))) := by
  obtain ⟨a, c, rfl⟩ : ∃ a c, v = .slice a l.length c := by simpa using h.1.shape
  obtain ⟨i0, hi, hz, hsz, hby⟩ := info_parts infoLt
  have HI := Lib.hid (And.intro hi (And.intro hz (And.intro hsz hby)))
  have HN := Lib.hid h
  have HF := Lib.hid hf
  have hll : l.length ≤ 65 := hf.len
  have HO0 : Hid ((w.alloc (.cells #[] 38)).ownsRow w.heap.size 38 2 (.slice (some ⟨w.heap.size, 0, none⟩) 0 0) 0 []) := Lib.hid (own_empty (Nat.le_refl _))
  have HB0 : Hid (Below w.heap.size w (w.alloc (.cells #[] 38))) := Lib.hid (one_below w _)
  clear h hf hi hz hsz hby
  go_enter Tryz.func23, Tryz.ntmps23
  go_wp2_with fail
  go_loopw [3, 4] (fun r i wr => ∃ k : Nat, k ≤ l.length ∧ i = .int .i64 k ∧ wr.ownsRow w.heap.size 38 2 r (lotsV (l.take k)).length (ltCells (lotsV (l.take k))) ∧ Below w.heap.size w wr) (fun _ i _ => l.length - (intOf i).toNat)
  case atStart => exact ⟨0, Nat.zero_le _, rfl, HO0.out, HB0.out⟩
  case round =>
    obtain ⟨k, hk, rfl, hown, hbel⟩ := hrel
    have HBEL := Lib.hid hbel
    by_cases hlt : k < l.length
    rotate_left
    · obtain rfl : k = l.length := by omega
      rw [List.take_of_length_le (Nat.le_refl _)] at hown
      obtain ⟨a9, c9, rfl⟩ := Ord.row_slice hown
      have HJ := Lib.hid (refJoin_any (lotsV l) _ wr (own_lots hown rfl) (by have := HF.out.take l.length; rw [List.take_of_length_le (Nat.le_refl _)] at this; omega) HF.out.all)
      clear hown hbel
      go_wp2_with (first
        | ((with_reducible refine HJ.out.mono ?_); rintro e w1 ⟨v1, rfl, ho1, hb1⟩; have HB1 := Lib.hid hb1; have HO1 := Lib.hid ho1; clear ho1 hb1)
        | fail)
      go_ret
      exact retRow HO1.out HBEL.out.size (HBEL.out.trans (HB1.out.mono HBEL.out.size))
    · obtain ⟨b, off, rfl, -, hb, hc⟩ := HN.out.1.at (i := k) (by simpa using hlt)
      have d2 : wr.cell? ⟨b, off + k * 3 + 2, none⟩ = some l[k].v := (hbel.cell (p := ⟨b, off + k * 3 + 2, none⟩) hb).trans (hc k l[k].cells (by simp [hlt]) 2 _ rfl)
      have hx := (HN.out.2 l[k] (List.getElem_mem hlt)).below hbel (Nat.le_refl _)
      have hxl := HF.out.lots l[k] (List.getElem_mem hlt)
      have hsn := lotsV_snoc hlt
      have htk := HF.out.take k
      have tk : ((k : Nat) : Int) < (l.length : Int) := by omega
      generalize l[k] = x at *
      obtain ⟨⟨xm, xk, xl⟩, xv⟩ := x
      simp only at d2 hx hxl hsn
      obtain ⟨ax, cx, rfl⟩ : ∃ a c, xv = .slice a xl.length c := by simpa using hx.shape
      have HSRC : Hid (Src wr 2 (.slice ax xl.length cx) xl.length (ltCells xl)) := Lib.hid (src_lots hx)
      have HOWN := Lib.hid hown
      have HSN := Lib.hid hsn
      generalize lotsV (l.take k) = P at *
      have HLE : Hid (P.length + xl.length ≤ maxLen ∧ (P.length + xl.length) * 24 ≤ 140737488355328) := Lib.hid (by simp only [maxLen]; omega)
      clear hown hbel hb hc hx hsn htk hxl
      go_wp2_with (first
        | ((with_reducible refine Any.wpl_cat ?_ ?_ ?_ Tryz.underlying23 HI.out.1 HI.out.2.1 HI.out.2.2.1 HI.out.2.2.2 ?_ (by decide) HOWN.out HSRC.out (ltCells_one _) HLE.out.1 HLE.out.2 HBEL.out.size ?_); rfl; rfl; rfl; rfl; intro v2 w2 hown2 hgrow2 hwho2; rw [← ltCells_append, ← List.length_append] at hown2; have HOW2 := Lib.hid hown2; have HB2 := Lib.hid (HBEL.out.grown hgrow2 HBEL.out.size (fun k hk => (HOWN.out.lt k hk).1)); clear hown2 hgrow2 hwho2; go_frame)
        | fail)
      go_roundw
      case rel => exact ⟨k + 1, by omega, by go_num, by rw [HSN.out]; exact HOW2.out, HB2.out⟩
      case measure => (simp [intOf]) <;> omega
end Go.Proofs.YtgnfdplphpejaaaGreatDoor.Sc
namespace Go.Proofs.YtgnfdplphpejaaaGreatDoor.Sc
open Go Go.RowKit Go.ChangeShapes Go.WideShapes Go.ChangeAt
set_option maxRecDepth 100000

/-- Of the boxes of a law: few, and short. -/
structure BoxFew (l : List Bv) : Prop where
  len : l.length ≤ 20
  lots : ∀ x ∈ l, x.b.lots.length ≤ 12 ∧ LtFew x.b.lots ∧ x.b.mark.size ≤ 40
theorem BoxFew.few {l : List Bv} (h : BoxFew l) : BxFew l := ⟨by have := h.len; omega, fun x hx => by have := (h.lots x hx).1; omega, fun x hx => (h.lots x hx).2.1.cnt⟩
set_option maxHeartbeats 8000000 in
theorem boxes_any (l : List Bv) (v : Value) (w : World) (h : BoxesAt w v l) (hf : ∀ x ∈ l, x.fit) : Calls Tryz.prog 20 #[v] w (FewP w (BoxFew l)) := by
  obtain ⟨a, c, rfl⟩ : ∃ a c, v = .slice a l.length c := by simpa using h.1.shape
  have hll : l.length ≤ 9223372036854775807 := by have := h.1.len_le; simp only [List.length_map, maxLen] at this; omega
  have HBS := Lib.hid (fun W (hW : Below w.heap.size w W) => h.below hW)
  have HF := Lib.hid hf
  clear h hf
  go_enter Tryz.func20, Tryz.ntmps20
  go_wp2_with fail
  go_loopw [3] (fun i wr => ∃ n : Nat, n ≤ l.length ∧ i = .int .i64 n ∧ (∀ x ∈ l.take n, x.b.lots.length ≤ 12 ∧ LtFew x.b.lots ∧ x.b.mark.size ≤ 40) ∧ Below w.heap.size w wr) (fun i _ => l.length - (intOf i).toNat)
  case atStart => exact ⟨0, Nat.zero_le _, rfl, by simp, Below.refl _ _⟩
  case round =>
    obtain ⟨n, hn, rfl, hok, hbel⟩ := hrel
    have HBEL := Lib.hid hbel
    have HOK := Lib.hid hok
    by_cases hlt : n < l.length
    rotate_left
    · obtain rfl : n = l.length := by omega
      rw [List.take_of_length_le (Nat.le_refl _)] at HOK
      clear hok hbel
      cases hl20 : decide ((l.length : Int) ≤ 20)
      · go_wp2_with fail
        go_ret
        exact ⟨false, rfl, by simp, HBEL.out⟩
      · have HK : Hid (l.length ≤ 20) := Lib.hid (by have := of_decide_eq_true hl20; omega)
        have hl21 : decide (l.length ≤ 20) = true := decide_eq_true HK.out
        go_wp2_with fail
        go_ret
        exact ⟨true, rfl, fun _ => ⟨HK.out, HOK.out⟩, HBEL.out⟩
    · obtain ⟨b, off, rfl, -, hbk, hc⟩ := (HBS.out wr hbel).1.at (i := n) (by simpa using hlt)
      have d2 : wr.cell? ⟨b, off + n * 3 + 2, none⟩ = some l[n].v := hc n l[n].cells (by simp [hlt]) 2 _ rfl
      have HD0 : Hid (∀ W, Below wr.heap.size wr W → W.cell? ⟨b, off + n * 3, none⟩ = some (.string l[n].b.mark)) := Lib.hid (fun W hW => (hW.cell (p := ⟨b, off + n * 3, none⟩) hbk).trans (hc n l[n].cells (by simp [hlt]) 0 _ rfl))
      have hsx := (HBS.out wr hbel).2 l[n] (List.getElem_mem hlt)
      have hfx := (HF.out l[n] (List.getElem_mem hlt)).1
      have HTK : Hid (l.take (n + 1) = l.take n ++ [l[n]]) := Lib.hid (List.take_succ_eq_append_getElem hlt)
      have tk : ((n : Nat) : Int) < (l.length : Int) := by omega
      generalize l[n] = y at *
      obtain ⟨⟨xm, xk, xl⟩, xv⟩ := y
      simp only at d2 HD0 hsx hfx
      obtain ⟨ax, cx, rfl⟩ : ∃ a c, xv = .slice a xl.length c := by simpa using hsx.shape
      have HFW := Lib.hid (refFew_any xl _ wr hsx)
      have hxl : xl.length ≤ 9223372036854775807 := by have := hsx.len_le; simp only [List.length_map, maxLen] at this; omega
      clear hok hbel hbk hc hsx
      cases h12 : decide (12 < (xl.length : Int))
      rotate_left
      · have h13 : decide (12 < xl.length) = true := decide_eq_true (by have := of_decide_eq_true h12; omega)
        go_wp2_with fail
        go_ret
        exact ⟨false, rfl, by simp, HBEL.out⟩
      · have H12 : Hid (xl.length ≤ 12) := Lib.hid (by have := of_decide_eq_false h12; omega)
        have h13 : decide (12 < xl.length) = false := decide_eq_false (by have := H12.out; omega)
        go_wp2_with fail
        refine HFW.out.mono ?_
        rintro e w1 ⟨b', rfl, hp, hb1⟩
        have d0 := HD0.out w1 hb1
        have HB1 := Lib.hid (HBEL.out.trans (hb1.mono HBEL.out.size))
        have HP := Lib.hid hp
        clear hp hb1
        cases b'
        · clear d0
          go_wp2_with fail
          go_ret
          exact ⟨false, rfl, by simp, HB1.out⟩
        · cases h40 : decide (40 < (xm.size : Int))
          rotate_left
          · have h41 : decide (40 < xm.size) = true := decide_eq_true (by have := of_decide_eq_true h40; omega)
            go_wp2_with fail
            go_ret
            exact ⟨false, rfl, by simp, HB1.out⟩
          · have H40 : Hid (xm.size ≤ 40) := Lib.hid (by have := of_decide_eq_false h40; omega)
            have h41 : decide (40 < xm.size) = false := decide_eq_false (by have := H40.out; omega)
            have HNX : Hid (∀ x ∈ l.take (n + 1), x.b.lots.length ≤ 12 ∧ LtFew x.b.lots ∧ x.b.mark.size ≤ 40) := Lib.hid (fun x hx => by
              rw [HTK.out] at hx
              rcases List.mem_append.1 hx with h | h
              · exact HOK.out x h
              · rw [List.mem_singleton.1 h]
                exact ⟨H12.out, HP.out rfl, H40.out⟩)
            go_wp2_with fail
            go_roundw
            case rel => exact ⟨n + 1, by omega, by go_num, HNX.out, HB1.out⟩
            case measure => (simp [intOf]) <;> omega
end Go.Proofs.YtgnfdplphpejaaaGreatDoor.Sc
