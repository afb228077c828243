/- boxes: by the law's own function. A row of own boxes as any boxes. -/
import Derived.Test.YtbigoifpfkdkjaaGreatDoorAwPk12
import Derived.Test.YtbigoifpfkdkjaaGreatDoorRefGo12
namespace Go.Proofs.YtbigoifpfkdkjaaGreatDoor.Sc
open Go Go.RowKit Go.ChangeShapes Go.WideShapes Go.ChangeAt
set_option maxRecDepth 100000

/-- Of boxes: their lots are few, and small. -/
structure BxFew (l : List Bv) : Prop where
  len : l.length ≤ 65
  lots : ∀ x ∈ l, x.b.lots.length ≤ 41
  cnt : ∀ x ∈ l, ∀ y ∈ x.b.lots, y.cnt ≤ 1099511627776
def lotsV (l : List Bv) : List Lt := allLots (l.map Bv.b)
theorem lotsV_snoc {l : List Bv} {k : Nat} (h : k < l.length) : lotsV (l.take (k + 1)) = lotsV (l.take k) ++ l[k].b.lots := by
  rw [List.take_succ_eq_append_getElem h, lotsV, List.map_append, allLots_append, ← lotsV]
  simp [allLots]
theorem lotsV_len : ∀ (l : List Bv), (∀ x ∈ l, x.b.lots.length ≤ 41) → (lotsV l).length ≤ 41 * l.length
  | [], _ => by simp [lotsV, allLots]
  | x :: r, h => by
    have h1 := lotsV_len r fun y hy => h y (List.mem_cons_of_mem _ hy)
    have h2 := h x List.mem_cons_self
    show (x.b.lots ++ lotsV r).length ≤ _
    rw [List.length_append, List.length_cons]
    omega
theorem BxFew.take {l : List Bv} (h : BxFew l) (k : Nat) : (lotsV (l.take k)).length ≤ 2665 := by
  have h1 := lotsV_len (l.take k) fun x hx => h.lots x (List.mem_of_mem_take hx)
  have h2 : (l.take k).length ≤ 65 := by rw [List.length_take]; have := h.len; omega
  omega
theorem BxFew.all {l : List Bv} (h : BxFew l) : ∀ y ∈ lotsV l, y.cnt ≤ 1099511627776 := fun y hy => by
  obtain ⟨b, hb, hyb⟩ := List.mem_flatMap.1 hy
  obtain ⟨x, hx, rfl⟩ := List.mem_map.1 hb
  exact h.cnt x hx y hyb
set_option maxHeartbeats 8000000 in
theorem content_any (l : List Bv) (v : Value) (w : World) (h : BoxesAt w v l) (hf : BxFew l) :
    Calls Tryz.prog 35 #[v] w (RetRow w 107 2 (joinL (lotsV l)).length (ltCells (joinL (lotsV l)))) := by
  obtain ⟨a, c, rfl⟩ : ∃ a c, v = .slice a l.length c := by simpa using h.1.shape
  obtain ⟨i0, hi, hz, hsz, hby⟩ := info_parts infoLt
  have HI := Lib.hid (And.intro hi (And.intro hz (And.intro hsz hby)))
  have HN := Lib.hid h
  have HF := Lib.hid hf
  have hll : l.length ≤ 65 := hf.len
  clear h hf hi hz hsz hby
  go_enter Tryz.func35, Tryz.ntmps35
  go_wp2_with fail
  go_loopw [3, 5, 8] (fun r _ i wr => ∃ k : Nat, k ≤ l.length ∧ i = .int .i64 k ∧ wr.ownsRow w.heap.size 107 2 r (lotsV (l.take k)).length (ltCells (lotsV (l.take k))) ∧ Below w.heap.size w wr) (fun _ _ i _ => l.length - (intOf i).toNat)
  case atStart => exact ⟨0, Nat.zero_le _, rfl, World.ownsRow_nil _ _ _ _, Below.refl _ _⟩
  case round =>
    obtain ⟨k, hk, rfl, hown, hbel⟩ := hrel
    have HBEL := Lib.hid hbel
    by_cases hlt : k < l.length
    rotate_left
    · obtain rfl : k = l.length := by omega
      rw [List.take_of_length_le (Nat.le_refl _)] at hown
      obtain ⟨a9, c9, rfl⟩ := Ord.row_slice hown
      have HJ := Lib.hid (join_any (lotsV l) _ wr (own_lots hown rfl) (by have := HF.out.take l.length; rw [List.take_of_length_le (Nat.le_refl _)] at this; omega) HF.out.all)
      clear hown hbel
      go_wp2_with (first
        | ((with_reducible refine HJ.out.mono ?_); rintro e w1 ⟨v1, rfl, ho1, hb1⟩; have HB1 := Lib.hid hb1; have HO1 := Lib.hid ho1; clear ho1 hb1)
        | fail)
      go_ret
      exact retRow HO1.out HBEL.out.size (HBEL.out.trans (HB1.out.mono HBEL.out.size))
    · obtain ⟨b, off, rfl, -, hb, hc⟩ := HN.out.1.at (i := k) (by simpa using hlt)
      have d0 : wr.cell? ⟨b, off + k * 3, none⟩ = some (.string l[k].b.mark) := (hbel.cell (p := ⟨b, off + k * 3, none⟩) hb).trans (hc k l[k].cells (by simp [hlt]) 0 _ rfl)
      have d1 : wr.cell? ⟨b, off + k * 3 + 1, none⟩ = some (.int .i64 l[k].b.kind) := (hbel.cell (p := ⟨b, off + k * 3 + 1, none⟩) hb).trans (hc k l[k].cells (by simp [hlt]) 1 _ rfl)
      have d2 : wr.cell? ⟨b, off + k * 3 + 2, none⟩ = some l[k].v := (hbel.cell (p := ⟨b, off + k * 3 + 2, none⟩) hb).trans (hc k l[k].cells (by simp [hlt]) 2 _ rfl)
      have hx := (HN.out.2 l[k] (List.getElem_mem hlt)).below hbel (Nat.le_refl _)
      have hxl := HF.out.lots l[k] (List.getElem_mem hlt)
      have hsn := lotsV_snoc hlt
      have htk := HF.out.take k
      generalize l[k] = x at *
      obtain ⟨⟨xm, xk, xl⟩, xv⟩ := x
      simp only at d0 d1 d2 hx hxl hsn
      obtain ⟨ax, cx, rfl⟩ : ∃ a c, xv = .slice a xl.length c := by simpa using hx.shape
      have al := one_below wr (.cells #[.string xm, .int .i64 xk, .slice ax xl.length cx] 96)
      have HSRC : Hid (Src (wr.alloc (.cells #[.string xm, .int .i64 xk, .slice ax xl.length cx] 96)) 2 (.slice ax xl.length cx) xl.length (ltCells xl)) := Lib.hid (src_lots (hx.below al (Nat.le_refl _)))
      have HOWN := Lib.hid (show (wr.alloc (.cells #[.string xm, .int .i64 xk, .slice ax xl.length cx] 96)).ownsRow w.heap.size 107 2 _ (lotsV (l.take k)).length (ltCells (lotsV (l.take k))) from hown.alloc _)
      have HBA := Lib.hid (hbel.trans (al.mono hbel.size))
      have HSN := Lib.hid hsn
      generalize lotsV (l.take k) = P at *
      have HLE : Hid (P.length + xl.length ≤ maxLen ∧ (P.length + xl.length) * 24 ≤ 140737488355328) := Lib.hid (by simp only [maxLen]; omega)
      clear hown hbel hb hc hx hsn al htk hxl
      go_wp2_with (first
        | ((with_reducible refine Any.wpl_cat ?_ ?_ ?_ Tryz.underlying88 HI.out.1 HI.out.2.1 HI.out.2.2.1 HI.out.2.2.2 ?_ (by decide) HOWN.out HSRC.out (ltCells_one _) HLE.out.1 HLE.out.2 HBA.out.size ?_); rfl; rfl; rfl; rfl; intro v2 w2 hown2 hgrow2 hwho2; rw [← ltCells_append, ← List.length_append] at hown2; have HOW2 := Lib.hid hown2; have HB2 := Lib.hid (HBA.out.grown hgrow2 HBA.out.size (fun k hk => (HOWN.out.lt k hk).1)); clear hown2 hgrow2 hwho2; go_frame)
        | fail)
      go_roundw
      case rel => exact ⟨k + 1, by omega, by go_num, by rw [HSN.out]; exact HOW2.out, HB2.out⟩
      case measure => (simp [intOf]) <;> omega
end Go.Proofs.YtbigoifpfkdkjaaGreatDoor.Sc
namespace Go.Proofs.YtbigoifpfkdkjaaGreatDoor.Sc
open Go Go.RowKit Go.ChangeShapes Go.WideShapes Go.ChangeAt
set_option maxRecDepth 100000

/-- Of the boxes of a law: few, and short. -/
structure BoxFew (l : List Bv) : Prop where
  len : l.length ≤ 20
  lots : ∀ x ∈ l, x.b.lots.length ≤ 12 ∧ LtFew x.b.lots ∧ x.b.mark.size ≤ 40
theorem BoxFew.few {l : List Bv} (h : BoxFew l) : BxFew l := ⟨by have := h.len; omega, fun x hx => by have := (h.lots x hx).1; omega, fun x hx => (h.lots x hx).2.1.cnt⟩
end Go.Proofs.YtbigoifpfkdkjaaGreatDoor.Sc
