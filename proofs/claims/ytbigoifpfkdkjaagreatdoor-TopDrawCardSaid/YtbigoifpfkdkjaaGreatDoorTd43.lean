/- The list of boxes: by the reference, and by the program. -/
import Derived.Test.YtbigoifpfkdkjaaGreatDoorTd42
namespace Go.Proofs.YtbigoifpfkdkjaaGreatDoor.Sc
open Go Go.RowKit Go.ChangeShapes Go.WideShapes Go.ChangeAt Go.Shelf
set_option maxRecDepth 100000
theorem join_short {L : List Lt} (h : ∀ x ∈ L, x.short ∧ x.cnt ≤ 1099511627776) (hl : L.length ≤ 3000) : ∀ x ∈ joinL L, x.short := fun x hx => by
  have h1 := (joinL_norm L).pos x hx
  have h2 := posTot_of (joinL_norm L) hx
  rw [joinL_tot] at h2
  have h3 := posTot_le (l := L) (fun y hy => (h y hy).2) x.good
  obtain ⟨y, hy, e⟩ := joinL_good hx
  exact ⟨by rw [← e]; exact (h y hy).1.name, by omega, by omega⟩
/-- Of the boxes of a list: few, and short. -/
structure BxShort (l : List Bv) : Prop where
  few : BoxFew l
  lots : ∀ x ∈ l, ∀ y ∈ x.b.lots, y.short
theorem BxShort.box {l : List Bv} (h : BxShort l) {x : Bv} (hx : x ∈ l) : x.b.mark.size ≤ 40 ∧ x.b.lots.length ≤ 12 ∧ (lotsT x.b.lots).length ≤ 1000 ∧ (boxT x.b).length ≤ 2000 := by
  have h1 := h.few.lots x hx
  have h2 := lotsB_len x.b.lots (h.lots x hx)
  exact ⟨h1.2.2, h1.1, by simp only [lotsT, List.length_append, List.length_cons, List.length_nil]; omega, boxT_len h1.2.2 h1.1 (h.lots x hx)⟩
theorem BxShort.take {l : List Bv} (h : BxShort l) (n : Nat) : (listB ((l.map Bv.b).take n)).length ≤ 40000 := by
  have h1 := listB_len ((l.map Bv.b).take n) (fun b hb => by
    obtain ⟨x, hx, rfl⟩ := List.mem_map.1 (List.mem_of_mem_take hb)
    exact (h.box hx).2.2.2)
  have h2 : ((l.map Bv.b).take n).length ≤ 20 := by rw [List.length_take, List.length_map]; have := h.few.len; omega
  omega
theorem BxShort.all {l : List Bv} (h : BxShort l) : (∀ x ∈ joinL (lotsV l), x.short) ∧ (joinL (lotsV l)).length ≤ 300 := by
  have h1 : (lotsV l).length ≤ 12 * l.length := by
    have : ∀ (m : List Bv), (∀ x ∈ m, x.b.lots.length ≤ 12) → (lotsV m).length ≤ 12 * m.length := fun m => by
      induction m with
      | nil => intro _; simp [lotsV, allLots]
      | cons x r ih =>
        intro hm
        have h1 := ih fun y hy => hm y (List.mem_cons_of_mem _ hy)
        have h2 := hm x List.mem_cons_self
        show (x.b.lots ++ lotsV r).length ≤ _
        rw [List.length_append, List.length_cons]
        omega
    exact this l fun x hx => (h.few.lots x hx).1
  have h2 := h.few.len
  have h3 := joinL_length (lotsV l)
  refine ⟨join_short (fun y hy => ?_) (by omega), by omega⟩
  obtain ⟨b, hb, hyb⟩ := List.mem_flatMap.1 hy
  obtain ⟨x, hx, rfl⟩ := List.mem_map.1 hb
  exact ⟨h.lots x hx y hyb, (h.few.lots x hx).2.1.cnt y hyb⟩
theorem box_txt (T : List UInt8) (m : ByteArray) (kd : Int) (L : List Lt) (K : ByteArray) (hK : K = txt (sizeT kd)) : txt T ++ m ++ ⟨#[32]⟩ ++ K ++ txt (lotsT L) = txt (T ++ boxT ⟨m, kd, L⟩) := by
  subst hK
  conv => lhs; rw [← txt_bt m]
  rw [show (⟨#[32]⟩ : ByteArray) = txt [32] from rfl, txt_append, txt_append, txt_append, txt_append, boxT]
  simp
set_option maxHeartbeats 8000000 in
theorem list_any (l : List Bv) (v : Value) (w : World) (h : BoxesAt w v l) (hf : BxShort l) (ht : TabW w) : Calls Tryz.prog 158 #[v] w (Ret w (.string (txt (listT (l.map Bv.b))))) := by
  obtain ⟨a, c, rfl⟩ : ∃ a c, v = .slice a l.length c := by simpa using h.1.shape
  have HB := Lib.hid (fun W (hW : Below w.heap.size w W) => h.below hW)
  have HF := Lib.hid hf
  have HT := Lib.hid (fun W (hW : Below w.heap.size w W) => ht.below hW)
  have hll : l.length ≤ 9223372036854775807 := by have := hf.few.len; omega
  have HCO := Lib.hid (fun W (hW : Below w.heap.size w W) => content_any l _ W (h.below hW) hf.few.few)
  obtain ⟨w0, hw0⟩ : ∃ w0, w0 = w.alloc (.cells #[.pointer none, .slice none 0 0] 261) := ⟨_, rfl⟩
  obtain ⟨b, hb⟩ : ∃ b, b = w.heap.size := ⟨_, rfl⟩
  have HI0 : Hid (Lib.IsBuilder 261 5 b b (Lib.byteCells []) w0 ∧ Below b w w0) := Lib.hid (by rw [hw0, hb]; exact ⟨Lib.fresh_isBuilder 261 5 w, one_below w _⟩)
  have HBE := Lib.hid hb
  have HBW := Lib.hid (fun W (hW : Below b w W) => (show Below w.heap.size w W from by rw [← hb]; exact hW))
  clear h hf ht
  go_enter Tryz.func158, Tryz.ntmps158
  go_wp2_with fail
  rw [← hw0, ← hb]
  clear hw0 hb
  go_loopw [6, 10] (fun _ i wr => ∃ n : Nat, n ≤ l.length ∧ i = .int .i64 n ∧ Lib.IsBuilder 261 5 b b (Lib.byteCells (listB ((l.map Bv.b).take n))) wr ∧ Below b w wr) (fun _ i _ => l.length - (intOf i).toNat)
  case atStart => exact ⟨0, Nat.zero_le _, rfl, HI0.out.1, HI0.out.2⟩
  case round =>
    obtain ⟨n, hn, rfl, hbd, hbel⟩ := hrel
    have HBEL := Lib.hid hbel
    have hbs : b ≤ wr.heap.size := by rw [HBE.out]; exact (HBW.out wr hbel).size
    have hTl := HF.out.take n
    have hTs : (Lib.byteCells (listB ((l.map Bv.b).take n))).length ≤ 40000 := by simpa [Lib.byteCells] using hTl
    by_cases hlt : n < l.length
    rotate_left
    · have HWB := Lib.hid (writeStringL b b _ ⟨#[97, 108, 108]⟩ wr hbd (by rw [show (⟨#[97, 108, 108]⟩ : ByteArray).size = 3 from rfl]; omega) hbs)
      have htl : (l.map Bv.b).take n = l.map Bv.b := List.take_of_length_le (by rw [List.length_map]; omega)
      rw [htl] at HWB
      obtain ⟨U, hU⟩ : ∃ U, U = listB (l.map Bv.b) ++ [97, 108, 108] := ⟨_, rfl⟩
      have HE3 : Hid (Lib.byteCells (listB (l.map Bv.b)) ++ Lib.strCells ⟨#[97, 108, 108]⟩ = Lib.byteCells U) := Lib.hid (by rw [hU, byteCells_append]; rfl)
      have hU1 : U.length ≤ 41000 := by rw [htl] at hTl; rw [hU, List.length_append]; simp only [List.length_cons, List.length_nil]; omega
      have HLA := Lib.hid HF.out.all
      have HTL := Lib.hid (fun W B' v2 (hbd : Lib.IsBuilder 261 5 b b (Lib.byteCells U) W) (hW : Below b w W) (hbW : b ≤ W.heap.size) (ho : W.ownsRow B' 107 2 v2 (joinL (lotsV l)).length (ltCells (joinL (lotsV l)))) => tell_any b b U (joinL (lotsV l)) v2 W hbd (fun V _ hs => own_lots (lots_stay ho hs) rfl) HLA.out.2 HLA.out.1 (by omega) (fun V hV => HT.out V (HBW.out V (hW.trans hV))) hbW)
      have HQ : Hid (listT (l.map Bv.b) = U ++ lotsT (joinL (lotsV l))) := Lib.hid (by rw [listT, hU, List.append_assoc]; rfl)
      have HBS := Lib.hid hbs
      have tkn : ¬ (((n : Nat) : Int) < (l.length : Int)) := by omega
      clear hbd hbel hbs hTl hTs htl hU hU1 hlt
      go_wp2_with (first
        | ((with_reducible refine HWB.out.mono ?_); rintro e w3 ⟨rfl, h1, h2, -⟩; rw [HE3.out] at h1; have HK3 := Lib.hid (show Lib.IsBuilder 261 5 b b (Lib.byteCells U) w3 ∧ Below b w w3 ∧ b ≤ w3.heap.size from ⟨.inr h1, HBEL.out.trans h2, Nat.le_trans HBS.out h2.size⟩); clear h1 h2)
        | ((with_reducible refine (HCO.out _ (HBW.out _ HK3.out.2.1)).mono ?_); rintro e w4 ⟨v4, rfl, ho4, hb4⟩; have HO4 := Lib.hid ho4; have HK4 := Lib.hid (show Lib.IsBuilder 261 5 b b (Lib.byteCells U) w4 ∧ Below b w w4 ∧ b ≤ w4.heap.size from ⟨isBuilder_below HK3.out.1 hb4, HK3.out.2.1.trans (hb4.mono HK3.out.2.2), Nat.le_trans HK3.out.2.2 hb4.size⟩); clear ho4 hb4)
        | ((with_reducible refine (HTL.out _ _ _ HK4.out.1 HK4.out.2.1 HK4.out.2.2 HO4.out).mono ?_); rintro e w5 ⟨rfl, h1, h2, -⟩; have HST := Lib.hid (Tryz.Builder_String_any b b _ w5 (.inr h1) (Nat.le_trans HK4.out.2.2 h2.size)); have HB5 := Lib.hid (HK4.out.2.1.trans h2); clear h1 h2)
        | ((with_reducible refine HST.out.mono ?_); rintro e w6 ⟨rfl, hb6⟩; have HB6 := Lib.hid (HB5.out.trans hb6); clear hb6)
        | fail)
      go_ret
      exact ⟨by rw [HQ.out]; rfl, HBW.out _ HB6.out⟩
    have hnb : n < (l.map Bv.b).length := by rw [List.length_map]; exact hlt
    obtain ⟨bb, off, rfl, -, -, hc⟩ := (HB.out wr (HBW.out wr hbel)).1.at (i := n) (by simpa using hlt)
    have d0 : wr.cell? ⟨bb, off + n * 3, none⟩ = some (.string l[n].b.mark) := hc n l[n].cells (by simp [hlt]) 0 _ rfl
    have d1 : wr.cell? ⟨bb, off + n * 3 + 1, none⟩ = some (.int .i64 l[n].b.kind) := hc n l[n].cells (by simp [hlt]) 1 _ rfl
    have d2 : wr.cell? ⟨bb, off + n * 3 + 2, none⟩ = some l[n].v := hc n l[n].cells (by simp [hlt]) 2 _ rfl
    have hSL : ∀ W, Below w.heap.size w W → Sl W 2 l[n].v (l[n].b.lots.map Lt.row) := fun W hW => (HB.out W hW).2 _ (List.getElem_mem hlt)
    have hbx := HF.out.box (List.getElem_mem hlt)
    have hsh := HF.out.lots _ (List.getElem_mem hlt)
    have hsn := listB_snoc hnb
    rw [List.getElem_map] at hsn
    obtain ⟨aL, cL, hL⟩ := (hSL wr (HBW.out wr hbel)).shape
    rw [List.length_map] at hL
    rw [hL] at d2 hSL
    generalize l[n].b = x at *
    obtain ⟨m, kd, L⟩ := x
    simp only at d0 d1 d2 hSL hbx hsh hL
    obtain ⟨w5, hw5⟩ : ∃ w5, w5 = wr.alloc (.cells #[.string m, .int .i64 kd, .slice aL L.length cL] 96) := ⟨_, rfl⟩
    obtain ⟨b6, hb6⟩ : ∃ b, b = wr.heap.size := ⟨_, rfl⟩
    have HX6 : Hid (w5.heap[b6]? = some (.cells #[.string m, .int .i64 kd, .slice aL L.length cL] 96 (0, 0))) := Lib.hid (by rw [hw5, hb6]; exact heap_alloc_new wr _)
    have h5 : Below wr.heap.size wr w5 := by rw [hw5]; exact one_below wr _
    have hbd5 := isBuilder_below hbd h5
    have HB5 : Hid (Below b w w5 ∧ b ≤ w5.heap.size) := Lib.hid ⟨hbel.trans (h5.mono hbs), Nat.le_trans hbs h5.size⟩
    have HKD := Lib.hid (fun W (_ : Below w5.heap.size w5 W) => size_any kd W)
    have hsz := sizeT_len kd
    have HSZ : Hid (m.size ≤ 40 ∧ (txt (sizeT kd)).size = 5) := Lib.hid ⟨hbx.1, by rw [txt_size]; exact hsz⟩
    obtain ⟨U, hU⟩ : ∃ U, U = listB ((l.map Bv.b).take n) ++ (bt m ++ 32 :: sizeT kd) := ⟨_, rfl⟩
    have hmid : m ++ ⟨#[32]⟩ ++ txt (sizeT kd) = txt (bt m ++ 32 :: sizeT kd) := by
      conv => lhs; rw [← txt_bt m]
      rw [show (⟨#[32]⟩ : ByteArray) = txt [32] from rfl, txt_append, txt_append]
      simp
    have hml : (bt m ++ 32 :: sizeT kd).length ≤ 46 := by simp only [List.length_append, List.length_cons, bt_len, hsz]; omega
    have HWS : Hid (∀ W, Below w5.heap.size w5 W → Calls Tryz.prog 181 #[.pointer (some ⟨b, 0, none⟩), .string (m ++ ⟨#[32]⟩ ++ txt (sizeT kd))] W fun e w' => e = .returned (.tuple #[.int .i64 (m ++ ⟨#[32]⟩ ++ txt (sizeT kd) : ByteArray).size, .nilIface]) ∧ (Lib.IsBuilder 261 5 b b (Lib.byteCells U) w' ∧ Below b w w' ∧ b ≤ w'.heap.size) ∧ w'.heap[b6]? = some (.cells #[.string m, .int .i64 kd, .slice aL L.length cL] 96 (0, 0))) := Lib.hid (fun W hW => by
      refine (writeStringL b b _ _ W (isBuilder_below hbd5 hW) ?_ (Nat.le_trans HB5.out.2 hW.size)).mono fun e w' hq => ⟨hq.1, ?_⟩
      · rw [hmid, txt_size]
        omega
      · obtain ⟨q1, q2, q3⟩ := hq.2
        refine ⟨⟨.inr ?_, (HB5.out.1.trans (hW.mono HB5.out.2)).trans q2, Nat.le_trans HB5.out.2 (Nat.le_trans hW.size q2.size)⟩, q3 _ _ _ (by decide) (by decide) (blk hW (lt_blk HX6.out) HX6.out)⟩
        rw [hmid, strCells_txt, ← byteCells_append, ← hU] at q1
        exact q1)
    have hU1 : U.length ≤ 41000 := by rw [hU, List.length_append]; omega
    have HTL := Lib.hid (fun W (hbd : Lib.IsBuilder 261 5 b b (Lib.byteCells U) W) (hW : Below b w W) (hbW : b ≤ W.heap.size) => tell_any b b U L (.slice aL L.length cL) W hbd (fun V hV _ => hSL V (HBW.out V (hW.trans hV))) (by omega) hsh (by omega) (fun V hV => HT.out V (HBW.out V (hW.trans hV))) hbW)
    have HUE : Hid (U ++ lotsT L = listB ((l.map Bv.b).take (n + 1))) := Lib.hid (by rw [hsn, hU, boxT]; simp)
    have tn : ((n : Nat) : Int) < (l.length : Int) := by omega
    clear hbd hbel hbs hTl hTs hc hSL hbx hsh hsn hL h5 hbd5 hsz hU hmid hml hnb hU1
    go_wp2_with fail
    rw [← hw5, ← hb6]
    clear hw5 hb6 d0 d1 d2
    refine Any.region_litL (fun
      | 0 => Any.val (.pointer (some ⟨b6, 0, none⟩))
      | 1 => Any.val (.string m)
      | 2 => Any.val (.string (m ++ ⟨#[32]⟩))
      | 3 => Any.val (.pointer (some ⟨b6, 1, none⟩))
      | 4 => Any.val (.int .i64 kd)
      | 5 => Any.val (.string (txt (sizeT kd)))
      | 6 => Any.val (.string (m ++ ⟨#[32]⟩ ++ txt (sizeT kd)))
      | _ => Any.idle) 7 _ (by kernel_rfl) rfl rfl rfl (by kernel_rfl) (by kernel_rfl) (by kernel_rfl) ?_ ?_ ?_
    · intro i _
      match i with
      | 0 => exact Any.lasts_val _
      | 1 => exact Any.lasts_val _
      | 2 => exact Any.lasts_val _
      | 3 => exact Any.lasts_val _
      | 4 => exact Any.lasts_val _
      | 5 => exact Any.lasts_val _
      | 6 => exact Any.lasts_val _
      | n + 7 => exact Any.lasts_idle
    · simp only [List.take_succ_cons, List.take_zero]
      refine ⟨?_, ?_, ?_, ?_, ?_, ?_, ?_, trivial⟩
      · refine Any.owes_plain rfl fun ρ wo hs' hb hc' => ?_
        have h6 : ρ (.tmp 6) = .pointer (some ⟨b6, 0, none⟩) := hs'.old' 6 (by kernel_rfl)
        go_simp
        exact Any.post_val hb rfl rfl
      · refine Any.owes_plain rfl fun ρ wo hs' hb hc' => ?_
        have h14 : ρ (.tmp 14) = .pointer (some ⟨b6, 0, none⟩) := hs'.new' 14 0 (by kernel_rfl)
        have c0 : wo.cell? ⟨b6, 0, none⟩ = some (.string m) := cell_blk (blk (below_undrew hb) (lt_blk HX6.out) HX6.out) 0
        go_simp
        exact Any.post_val hb rfl rfl
      · refine Any.owes_plain rfl fun ρ wo hs' hb hc' => ?_
        have h15 : ρ (.tmp 15) = .string m := hs'.new' 15 1 (by kernel_rfl)
        exact Any.ok_add_str (h15) (hc' _) (by have := HSZ.out; have e1 : (⟨#[32]⟩ : ByteArray).size = 1 := rfl; (try simp only [ByteArray.size_append]); omega) (Any.post_val hb rfl rfl)
      · refine Any.owes_plain rfl fun ρ wo hs' hb hc' => ?_
        have h6 : ρ (.tmp 6) = .pointer (some ⟨b6, 0, none⟩) := hs'.old' 6 (by kernel_rfl)
        go_simp
        exact Any.post_val hb rfl rfl
      · refine Any.owes_plain rfl fun ρ wo hs' hb hc' => ?_
        have h17 : ρ (.tmp 17) = .pointer (some ⟨b6, 1, none⟩) := hs'.new' 17 3 (by kernel_rfl)
        have c0 : wo.cell? ⟨b6, 1, none⟩ = some (.int .i64 kd) := cell_blk (blk (below_undrew hb) (lt_blk HX6.out) HX6.out) 1
        go_simp
        exact Any.post_val hb rfl rfl
      · refine Any.owes_plain rfl fun ρ wo hs' hb hc' => ?_
        have h18 : ρ (.tmp 18) = .int .i64 kd := hs'.new' 18 4 (by kernel_rfl)
        have hf := hs'.func 183
        go_simp
        exact (HKD.out wo (below_undrew hb)).mono fun e w' ⟨he, hb'⟩ => ⟨_, he, Any.post_vals hb rfl rfl hb'⟩
      · refine Any.owes_plain rfl fun ρ wo hs' hb hc' => ?_
        have h16 : ρ (.tmp 16) = .string (m ++ ⟨#[32]⟩) := hs'.new' 16 2 (by kernel_rfl)
        have h19 : ρ (.tmp 19) = .string (txt (sizeT kd)) := hs'.new' 19 5 (by kernel_rfl)
        exact Any.ok_add_str (h16) (h19) (by have := HSZ.out; have e1 : (⟨#[32]⟩ : ByteArray).size = 1 := rfl; (try simp only [ByteArray.size_append]); omega) (Any.post_val hb rfl rfl)
    intro vals w6 hb hk
    have h6 : vals 6 = .string (m ++ ⟨#[32]⟩ ++ txt (sizeT kd)) := hk 6 (by kernel_rfl)
    have HB6 := Lib.hid hb
    clear hk hb
    simp only [List.take_succ_cons, List.take_zero, Any.putAll]
    go_frame
    simp only [Nat.zero_add, Nat.reduceAdd]
    rw [h6]
    clear h6
    go_simp
    refine (HWS.out w6 HB6.out).mono ?_
    rintro e w7 ⟨rfl, hq, hx7⟩
    have HQ7 := Lib.hid hq
    have y2 := cell_blk hx7 2
    clear hq hx7
    refine ⟨_, rfl, ?_⟩
    go_wp2_with (first
      | ((with_reducible refine (HTL.out _ HQ7.out.1 HQ7.out.2.1 HQ7.out.2.2).mono ?_); rintro e w8 ⟨rfl, hq⟩; have HQ8 := Lib.hid hq; clear hq)
      | fail)
    go_roundw
    case rel => exact ⟨n + 1, by omega, by go_num, by rw [← HUE.out]; exact .inr HQ8.out.1, HQ7.out.2.1.trans HQ8.out.2.1⟩
    case measure => (simp [intOf]) <;> omega
end Go.Proofs.YtbigoifpfkdkjaaGreatDoor.Sc
