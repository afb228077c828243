/- A receipt taken into the house, by the program. -/
import Derived.Test.YticnmmfiadpbbaaGreatHs25
import Derived.Test.YticnmmfiadpbbaaGreatAnyB
namespace Go.Proofs.YticnmmfiadpbbaaGreat.Sc
open Go Go.RowKit Go.ChangeShapes Go.WideShapes Go.ChangeAt
set_option maxRecDepth 100000

def PutP (w : World) (bh bm bu : Nat) (h : Hs) (e : Ending) (w' : World) : Prop := e = .returned (.tuple #[]) ∧ Keep (fun b => b = bm ∨ b = bu) w w' ∧ Hsx w' bh bm bu h
set_option maxHeartbeats 4000000 in
theorem putH_any {bh bm bu : Nat} {h : Hs} (n who : ByteArray) (d : Int) (l : List Lt) (vl : Value) (w : World) (H : Hsx w bh bm bu h) (hs : Sl w 2 vl (l.map Lt.row)) (hl : l.length ≤ 100000) (hc : ∀ g, posTot l g ≤ 4611686018427387904)
    (hnew : memB n h.used = false) (hne : ∀ r ∈ h.L, r.num ≠ n) :
    Calls Tryz.prog 34 #[.pointer (some ⟨bh, 0, none⟩), .string n, .string who, .int .i64 d, vl] w (PutP w bh bm bu ⟨h.name, rput h.L ⟨n, h.name, who, joinL l, d⟩, h.used ++ [n]⟩) := by
  obtain ⟨es, us, H⟩ := H
  obtain ⟨al, cl, rfl⟩ : ∃ a c, vl = .slice a l.length c := by simpa using hs.shape
  obtain ⟨J, hJ⟩ : ∃ J, J = joinL l := ⟨_, rfl⟩
  have HJN : Hid (∀ W, Below w.heap.size w W → Calls Tryz.prog 47 #[.slice al l.length cl] W (RetRow W 47 2 J.length (ltCells J))) := Lib.hid (fun W hW => by
    rw [hJ]; exact join_all l _ W (hs.below hW (Nat.le_refl _)) hl hc)
  rw [← hJ]
  obtain ⟨nm, hnm⟩ : ∃ nm, nm = h.name := ⟨_, rfl⟩
  have HX : Hid (w.heap[bh]? = some (.cells #[.string nm, .map (some bm), .map (some bu)] 61 (0, 0))) := Lib.hid (by rw [hnm]; exact H.box)
  have HNM := Lib.hid hnm
  have HRM := Lib.hid H.rm
  have HH := Lib.hid H
  have HNEW := Lib.hid hnew
  have HNE := Lib.hid hne
  obtain ⟨B9, hB9⟩ : ∃ B, B = w.heap.size := ⟨_, rfl⟩
  have HB9 : Hid (B9 ≤ w.heap.size) := Lib.hid (Nat.le_of_eq hB9)
  have HX9 : Hid (w.heap.size ≤ B9) := Lib.hid (Nat.le_of_eq hB9.symm)
  clear hs hl hc hnew hne hJ hnm H hB9
  go_enter Tryz.func34, Tryz.ntmps34
  go_wp2_with fail
  refine Any.region_litL (fun
    | 0 => Any.val (.pointer (some ⟨bh, 0, none⟩))
    | 1 => Any.val (.pointer (some ⟨bh, 0, none⟩))
    | 2 => Any.val (.pointer (some ⟨bh, 1, none⟩))
    | 3 => Any.val (.map (some bm))
    | 4 => Any.val (.string n)
    | 5 => Any.val (.string n)
    | 6 => Any.val (.pointer (some ⟨bh, 0, none⟩))
    | 7 => Any.val (.pointer (some ⟨bh, 0, none⟩))
    | 8 => Any.val (.pointer (some ⟨bh, 0, none⟩))
    | 9 => Any.val (.string nm)
    | 10 => Any.val (.string who)
    | 11 => Any.val (.slice al l.length cl)
    | 12 => Any.row B9 47 2 (J.length) (ltCells J) []
    | 13 => Any.val (.int .i64 d)
    | 14 => Any.built 3 (fun s => #[.string n, .string nm, .string who, s, .int .i64 d]) B9 47 2 J.length (ltCells J) 12
    | _ => Any.idle) 15 _ (by kernel_rfl) rfl rfl rfl (by kernel_rfl) (by kernel_rfl) (by kernel_rfl) ?_ ?_ ?_
  · intro i _
    match i with
    | 0 => exact Any.lasts_val _
    | 1 => exact Any.lasts_val _
    | 2 => exact Any.lasts_val _
    | 3 => exact Any.lasts_val _
    | 4 => exact Any.lasts_val _
    | 5 => exact Any.lasts_val _
    | 6 => exact Any.lasts_val _
    | 7 => exact Any.lasts_val _
    | 8 => exact Any.lasts_val _
    | 9 => exact Any.lasts_val _
    | 10 => exact Any.lasts_val _
    | 11 => exact Any.lasts_val _
    | 12 => exact Any.lasts_row _ _ _ _ _ _
    | 13 => exact Any.lasts_val _
    | 14 => exact Any.lasts_built _ _ _ _ _ _ _ _
    | n + 15 => exact Any.lasts_idle
  · simp only [List.take_succ_cons, List.take_zero]
    refine ⟨?_, ?_, ?_, ?_, ?_, ?_, ?_, ?_, ?_, ?_, ?_, ?_, ?_, ?_, ?_, trivial⟩
    · refine Any.owes_plain rfl fun ρ wo hs' hb hc' => ?_
      have h0 : ρ (.tmp 0) = .pointer (some ⟨bh, 0, none⟩) := hs'.old' 0 (by kernel_rfl)
      exact Any.ok_move (Any.post_val hb rfl h0)
    · refine Any.owes_plain rfl fun ρ wo hs' hb hc' => ?_
      have h10 : ρ (.tmp 10) = .pointer (some ⟨bh, 0, none⟩) := hs'.new' 10 0 (by kernel_rfl)
      go_simp
      exact Any.post_val hb rfl rfl
    · refine Any.owes_plain rfl fun ρ wo hs' hb hc' => ?_
      have h11 : ρ (.tmp 11) = .pointer (some ⟨bh, 0, none⟩) := hs'.new' 11 1 (by kernel_rfl)
      go_simp
      exact Any.post_val hb rfl rfl
    · refine Any.owes_plain rfl fun ρ wo hs' hb hc' => ?_
      have h12 : ρ (.tmp 12) = .pointer (some ⟨bh, 1, none⟩) := hs'.new' 12 2 (by kernel_rfl)
      obtain ⟨c0, c1, c2⟩ := cells3_blk (blk (below_undrew hb) (lt_blk HX.out) HX.out)
      go_simp
      exact Any.post_val hb rfl rfl
    · refine Any.owes_plain rfl fun ρ wo hs' hb hc' => ?_
      have h1 : ρ (.tmp 1) = .string n := hs'.old' 1 (by kernel_rfl)
      exact Any.ok_move (Any.post_val hb rfl h1)
    · refine Any.owes_plain rfl fun ρ wo hs' hb hc' => ?_
      have h1 : ρ (.tmp 1) = .string n := hs'.old' 1 (by kernel_rfl)
      exact Any.ok_move (Any.post_val hb rfl h1)
    · refine Any.owes_plain rfl fun ρ wo hs' hb hc' => ?_
      have h0 : ρ (.tmp 0) = .pointer (some ⟨bh, 0, none⟩) := hs'.old' 0 (by kernel_rfl)
      exact Any.ok_move (Any.post_val hb rfl h0)
    · refine Any.owes_plain rfl fun ρ wo hs' hb hc' => ?_
      have h16 : ρ (.tmp 16) = .pointer (some ⟨bh, 0, none⟩) := hs'.new' 16 6 (by kernel_rfl)
      go_simp
      exact Any.post_val hb rfl rfl
    · refine Any.owes_plain rfl fun ρ wo hs' hb hc' => ?_
      have h17 : ρ (.tmp 17) = .pointer (some ⟨bh, 0, none⟩) := hs'.new' 17 7 (by kernel_rfl)
      go_simp
      exact Any.post_val hb rfl rfl
    · refine Any.owes_plain rfl fun ρ wo hs' hb hc' => ?_
      have h18 : ρ (.tmp 18) = .pointer (some ⟨bh, 0, none⟩) := hs'.new' 18 8 (by kernel_rfl)
      obtain ⟨c0, c1, c2⟩ := cells3_blk (blk (below_undrew hb) (lt_blk HX.out) HX.out)
      go_simp
      exact Any.post_val hb rfl rfl
    · refine Any.owes_plain rfl fun ρ wo hs' hb hc' => ?_
      have h2 : ρ (.tmp 2) = .string who := hs'.old' 2 (by kernel_rfl)
      exact Any.ok_move (Any.post_val hb rfl h2)
    · refine Any.owes_plain rfl fun ρ wo hs' hb hc' => ?_
      have h4 : ρ (.tmp 4) = .slice al l.length cl := hs'.old' 4 (by kernel_rfl)
      exact Any.ok_move (Any.post_val hb rfl h4)
    · refine Any.owes_plain rfl fun ρ wo hs' hb hc' => ?_
      have h21 : ρ (.tmp 21) = .slice al l.length cl := hs'.new' 21 11 (by kernel_rfl)
      have hf := hs'.func 47
      go_simp
      exact (HJN.out wo (below_undrew hb)).mono fun e w' ⟨v, he, ho, hb'⟩ => ⟨v, he, Any.post_new hb (ownsRow_base ho (Nat.le_trans HB9.out hb.size)) hb' (fun b h => (ho.lt b h).1)⟩
    · refine Any.owes_plain rfl fun ρ wo hs' hb hc' => ?_
      have h3 : ρ (.tmp 3) = .int .i64 d := hs'.old' 3 (by kernel_rfl)
      exact Any.ok_move (Any.post_val hb rfl h3)
    · refine Any.owes_plain rfl fun ρ wo hs' hb hc' => ?_
      have h15 : ρ (.tmp 15) = .string n := hs'.new' 15 5 (by kernel_rfl)
      have h19 : ρ (.tmp 19) = .string nm := hs'.new' 19 9 (by kernel_rfl)
      have h20 : ρ (.tmp 20) = .string who := hs'.new' 20 10 (by kernel_rfl)
      have h23 : ρ (.tmp 23) = .int .i64 d := hs'.new' 23 13 (by kernel_rfl)
      have h22 : wo.ownsRow B9 47 2 (ρ (.tmp 22)) J.length (ltCells J) := hs'.new' 22 12 (by kernel_rfl)
      obtain ⟨aJ, cJ, eJ⟩ := row_shape h22
      rw [eJ] at h22
      go_simp
      exact Any.post_built (k := 3) (cells := fun s => #[.string n, .string nm, .string who, s, .int .i64 d]) (j := 12) hb rfl ⟨_, rfl⟩ rfl eJ rfl h22
  intro vals w5 hb hk
  have h3 : vals 3 = .map (some bm) := hk 3 (by kernel_rfl)
  have h4 : vals 4 = .string n := hk 4 (by kernel_rfl)
  have hq : (Any.built 3 (fun s => #[.string n, .string nm, .string who, s, .int .i64 d]) B9 47 2 J.length (ltCells J) 12).know (vals 14) w5 := hk 14 (by kernel_rfl)
  have h14 : vals 14 = .agg #[.string n, .string nm, .string who, Any.aggAt 3 (vals 14), .int .i64 d] := by
    obtain ⟨s, q1, -, q2⟩ := hq
    rw [q1]; rfl
  have hs : w5.ownsRow B9 47 2 (Any.aggAt 3 (vals 14)) J.length (ltCells J) := by
    obtain ⟨s, q1, -, q2⟩ := hq
    rw [q1]; exact q2
  have HB5 := Lib.hid hb
  have HJ5 := Lib.hid hs
  have HR5 := Lib.hid (HRM.out.same (hb.block _ HRM.out.lt))
  clear hk hb hs hq
  simp only [List.take_succ_cons, List.take_zero, Any.putAll]
  go_frame
  simp only [Nat.zero_add, Nat.reduceAdd]
  generalize Any.aggAt 3 (vals 14) = s at h14 HJ5
  rw [h3, h4, h14]
  clear h3 h4 h14
  refine Mp.ok_update (P := Tryz.prog) (b := bm) (l := es) (key := n) Tryz.underlying58 Tryz.underlying9 rfl rfl rfl HR5.out ?_
  intro w6 hm6 hg6 hz6
  have HM6 := Lib.hid hm6
  have HK6 := Lib.hid (Keep.of_grown hg6)
  clear hm6 hg6 hz6
  have HK6B : Hid (Keep (fun b => b = bm) w5 w6) := Lib.hid (HK6.out.mono fun _ _ e => (Option.some.inj e).symm)
  have HH6 := Lib.hid ((HH.out.below HB5.out).putR (h' := ⟨h.name, rput h.L ⟨n, h.name, who, J, d⟩, h.used⟩) (x := ⟨n, h.name, who, J, d⟩) (lv := s) (n := n) HK6B.out (by rw [← HNM.out]; exact HM6.out) (own_lots (ownsRow_keep HJ5.out HK6B.out (fun b hb e => by have h1 := (HJ5.out.lt b hb).1; have h2 := HH.out.lt.2.1; have h3 := HX9.out; omega)) rfl) rfl rfl (fun m => rfind_rput HNE.out))
  have HX6 := Lib.hid HH6.out.box
  have c2 := cell_blk HX6.out 2
  simp only [List.getElem?_toArray, List.getElem?_cons_succ, List.getElem?_cons_zero] at c2
  go_wp2_with (first
    | ((with_reducible refine Mp.wpl_update (b := bu) (l := us) (key := n) (v := .bool true) ?_ ?_ ?_ ?_ Tryz.underlying59 Tryz.underlying9 HH6.out.um ?_); rfl; rfl; rfl; rfl; intro w7 hm7 hg7 hz7; have HM7 := Lib.hid hm7; have HK7 : Hid (Keep (fun b => b = bu) w6 w7) := Lib.hid ((Keep.of_grown hg7).mono fun _ _ e => (Option.some.inj e).symm); clear hm7 hg7 hz7; go_frame)
    | fail)
  have HH7 := Lib.hid (HH6.out.use (h' := ⟨h.name, rput h.L ⟨n, h.name, who, J, d⟩, h.used ++ [n]⟩) HK7.out HM7.out rfl rfl rfl HNEW.out)
  go_end0
  exact ⟨rfl, ((Keep.of_below HB5.out).trans (HK6B.out.mono fun _ _ e => .inl e) fun _ _ e => e).trans (HK7.out.mono fun _ _ e => .inr e) fun _ _ e => e, _, _, HH7.out⟩
end Go.Proofs.YticnmmfiadpbbaaGreat.Sc
