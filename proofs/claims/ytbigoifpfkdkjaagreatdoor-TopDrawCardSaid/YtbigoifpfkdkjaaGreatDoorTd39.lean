/- pack.Pack: by the program. -/
import Derived.Test.YtbigoifpfkdkjaaGreatDoorTd37
import Derived.Test.YtbigoifpfkdkjaaGreatDoorTd38
import Derived.Test.YtbigoifpfkdkjaaGreatDoorTd31
namespace Go.Proofs.YtbigoifpfkdkjaaGreatDoor.Sc
open Go Go.RowKit Go.ChangeShapes Go.WideShapes Go.ChangeAt
set_option maxRecDepth 100000
/-- Behind Pack. -/
def PackP (w : World) (q : Int × List Bx) (e : Ending) (w' : World) : Prop := AddP w w.heap.size q e w'
theorem markAll_snoc (own : ByteArray) : ∀ (bs : List Bx) (b : Bx) (n : Nat), markAll own n (bs ++ [b]) = markAll own n bs ++ [{ b with mark := txt (markB (bt own) (n + bs.length)) }]
  | [], b, n => rfl
  | x :: r, b, n => by
    rw [List.cons_append, markAll, markAll_snoc own r b (n + 1), markAll, List.length_cons, show n + 1 + r.length = n + (r.length + 1) by omega]
    rfl
theorem posTot_le20 {l : List Lt} (h : ∀ y ∈ l, y.cnt ≤ 1048576) (n : ByteArray) : posTot l n ≤ 1048576 * l.length := by
  induction l with
  | nil => simp [posTot]
  | cons x r ih =>
    have h1 := ih fun y hy => h y (List.mem_cons_of_mem _ hy)
    have h2 := h x List.mem_cons_self
    rw [posTot, List.length_cons]
    split <;> omega
/-- Where the first loop stands. -/
structure Pk1 (t : List Gd) (E : List Lt) (w wr : World) (v : Value) (B k : Nat) (R : List Bv) : Prop where
  at' : BsAt wr v R B
  len : R.length ≤ 64
  done : packB t E [] = packB t (E.drop k) (R.map Bv.b)
  max : LotsMax k (R.map Bv.b)
  below : Below B w wr
/-- Where the second loop stands. -/
structure Pk2 (own : ByteArray) (first : Nat) (bs : List Bx) (w wr : World) (v : Value) (B k : Nat) (R : List Bv) : Prop where
  at' : BsAt wr v R B
  len : R.length = bs.length
  done : R.map Bv.b = markAll own first (bs.take k) ++ bs.drop k
  below : Below B w wr
theorem pk2_step {own : ByteArray} {first : Nat} {bs : List Bx} {w wr W : World} {B k g cap : Nat} {R : List Bv} {cur : Array Value} (h : Pk2 own first bs w wr (.slice (some ⟨g, 0, none⟩) R.length cap) B k R) (hk : k < R.length)
    (hh : wr.heap[g]? = some (.cells cur 96 (0, 0))) (hW : Below wr.heap.size wr W) :
    ∃ R', R'.length = R.length ∧ Pk2 own first bs w (W.setCell ⟨g, k * 3, none⟩ (.string (txt (markB (bt own) (first + k))))) (.slice (some ⟨g, 0, none⟩) R.length cap) B (k + 1) R' := by
  have hkb : k < bs.length := by rw [← h.len]; exact hk
  have hat : BsAt W (.slice (some ⟨g, 0, none⟩) R.length cap) R B := h.at'.below hW
  have hh2 := blk hW (lt_blk hh) hh
  have hgB : B ≤ g := (h.at'.own.lt g rfl).1
  have hks : Keep (fun j => j = g) W (W.setCell ⟨g, k * 3, none⟩ (.string (txt (markB (bt own) (first + k))))) := ⟨rfl, rfl, rfl, by simp [World.setCell], fun j _ hj => Below.heap_setCell W _ _ j (fun e => hj e)⟩
  refine ⟨R.set k ⟨{ R[k].b with mark := txt (markB (bt own) (first + k)) }, R[k].v⟩, List.length_set .., ?_, ?_, ?_, ?_⟩
  · exact hat.setMark hk hh2 _ (by simp [World.setCell, Array.getElem?_modify, hh2]) hks
  · rw [List.length_set]; exact h.len
  · have hd := h.done
    have hml : (markAll own first (bs.take k)).length = k := by rw [markAll_len, List.length_take]; omega
    have hbk : R[k].b = bs[k] := by
      have h1 : (R.map Bv.b)[k]? = some bs[k] := by
        rw [hd, List.getElem?_append_right (by omega), hml, Nat.sub_self, List.getElem?_drop, Nat.add_zero, List.getElem?_eq_getElem hkb]
      rw [List.getElem?_map, List.getElem?_eq_getElem hk] at h1
      exact Option.some.inj h1
    rw [List.map_set, hd, List.take_succ_eq_append_getElem hkb, markAll_snoc, List.drop_eq_getElem_cons hkb, List.length_take, Nat.min_eq_left (by omega), ← hbk]
    rw [List.set_append_right _ _ (by omega), hml, Nat.sub_self]
    simp
  · exact (h.below.trans (hW.mono (Nat.le_trans hgB (Nat.le_of_lt (lt_blk hh))))).trans (hks.below (Nat.le_trans hgB (Nat.le_of_lt (lt_blk hh2))) fun j hj e => by omega)
set_option maxHeartbeats 4000000 in
theorem pack_any (t : List Gd) (l : List Lt) (first : Int) (own : ByteArray) (bt' bm : Nat) (v : Value) (w : World) (hap : ApT w) (htt : TabW w) (hs : Sl w 2 v (l.map Lt.row)) (hl : l.length < 20) (htab : Tab w bt' bm t) (hn : (codes t).Nodup) (hok : ∀ g ∈ t, gdOk g = true) :
    Calls Tryz.prog 29 #[.pointer (some ⟨bt', 0, none⟩), .int .i64 first, .string own, v] w (PackP w (packR t first own l)) := by
  have HPR : Hid (packR t first own l = if makeC (bt own) first = 0 then
    if sumC t Gd.wt l = 0 then
      if sumC t Gd.vol l = 0 then
        if (packB t (ordL t l) []).1 = 0 then
          if (packB t (ordL t l) []).2 ≠ [] ∧ 999999 < first + (packB t (ordL t l) []).2.length - 1 then (3, []) else (0, markAll own first.toNat (packB t (ordL t l) []).2)
        else ((packB t (ordL t l) []).1, [])
      else (sumC t Gd.vol l, [])
    else (sumC t Gd.wt l, [])
  else (makeC (bt own) first, [])) := Lib.hid rfl
  obtain ⟨n1, hv1, -⟩ := sumV_is t Gd.wt l
  obtain ⟨n2, hv2, -⟩ := sumV_is t Gd.vol l
  have hmk := mkMake_any own first w htt
  have HMK : Hid (Calls Tryz.prog 15 #[.string own, .int .i64 first] w (Ret w (.tuple #[.string (if makeC (bt own) first = 0 then txt (markB (bt own) first.toNat) else ⟨#[]⟩), .int .i64 (makeC (bt own) first)]))) := Lib.hid hmk
  have HW1 := Lib.hid (fun W (hW : Below w.heap.size w W) => weight_any t l bt' bm v W (hs.below hW (Nat.le_refl _)) (htab.below hW) hn hok)
  have HW2 := Lib.hid (fun W (hW : Below w.heap.size w W) => volume_any t l bt' bm v W (hs.below hW (Nat.le_refl _)) (htab.below hW) hn hok)
  rw [hv1] at HW1
  rw [hv2] at HW2
  clear hv1 hv2 hmk
  by_cases hm : makeC (bt own) first = 0
  rotate_left
  · rw [if_neg hm] at HPR HMK
    have tm : (makeC (bt own) first != 0) = true := by simp [hm]
    have HM := Lib.hid hm
    generalize makeC (bt own) first = m at *
    clear hap htt hs hl htab hn hok hm HW1 HW2
    go_enter Tryz.func29, Tryz.ntmps29
    go_wp2_with (first | ((with_reducible refine HMK.out.mono ?_); rintro e w1 ⟨rfl, hb1⟩; have HB1 := Lib.hid hb1; clear hb1) | fail)
    go_ret2
    exact ⟨HB1.out, .inl ⟨by rw [HPR.out]; exact HM.out, by rw [HPR.out]; rfl⟩⟩
  rw [if_pos hm] at HPR HMK
  rw [hm] at HMK
  by_cases hs1 : sumC t Gd.wt l = 0
  rotate_left
  · rw [if_neg hs1] at HPR
    have tm : (sumC t Gd.wt l != 0) = true := by simp [hs1]
    have HM := Lib.hid hs1
    generalize sumC t Gd.wt l = m at *
    generalize txt (markB (bt own) first.toNat) = mk at *
    clear hap htt hs hl htab hn hok hm hs1 HW2
    go_enter Tryz.func29, Tryz.ntmps29
    go_wp2_with (first | ((with_reducible refine HMK.out.mono ?_); rintro e w1 ⟨rfl, hb1⟩; have HB1 := Lib.hid hb1; clear hb1) | ((with_reducible refine (HW1.out _ HB1.out).mono ?_); rintro e w2 ⟨rfl, hb2⟩; have HB2 := Lib.hid (HB1.out.trans (hb2.mono HB1.out.size)); clear hb2) | fail)
    go_ret2
    exact ⟨HB2.out, .inl ⟨by rw [HPR.out]; exact HM.out, by rw [HPR.out]; rfl⟩⟩
  rw [if_pos hs1] at HPR
  have hin := (sumC_ok hs1).1
  rw [hs1] at HW1
  by_cases hs2 : sumC t Gd.vol l = 0
  rotate_left
  · rw [if_neg hs2] at HPR
    have tm : (sumC t Gd.vol l != 0) = true := by simp [hs2]
    have HM := Lib.hid hs2
    generalize sumC t Gd.vol l = m at *
    generalize txt (markB (bt own) first.toNat) = mk at *
    clear hap htt hs hl htab hn hok hm hs1 hs2 hin
    go_enter Tryz.func29, Tryz.ntmps29
    go_wp2_with (first | ((with_reducible refine HMK.out.mono ?_); rintro e w1 ⟨rfl, hb1⟩; have HB1 := Lib.hid hb1; clear hb1) | ((with_reducible refine (HW1.out _ HB1.out).mono ?_); rintro e w2 ⟨rfl, hb2⟩; have HB2 := Lib.hid (HB1.out.trans (hb2.mono HB1.out.size)); clear hb2) | ((with_reducible refine (HW2.out _ HB2.out).mono ?_); rintro e w3 ⟨rfl, hb3⟩; have HB3 := Lib.hid (HB2.out.trans (hb3.mono HB2.out.size)); clear hb3) | fail)
    go_ret2
    exact ⟨HB3.out, .inl ⟨by rw [HPR.out]; exact HM.out, by rw [HPR.out]; rfl⟩⟩
  rw [if_pos hs2] at HPR
  rw [hs2] at HW2
  have hfirst : 0 ≤ first ∧ first ≤ 999999 ∧ ownerOk (bt own) = true := by
    unfold makeC at hm
    split at hm
    · rename_i h1
      split at hm
      · rename_i h2; exact ⟨h2.1, h2.2, h1⟩
      · cases hm
    · cases hm
  have HOR := Lib.hid (fun W (hW : Below w.heap.size w W) => order_any t l bt' bm v W (hs.below hW (Nat.le_refl _)) hl (htab.below hW) hn hin)
  have HEL : Hid ((ordL t l).length < 20 ∧ ∀ x ∈ ordL t l, 0 ≤ x.cnt ∧ x.cnt ≤ 1099511627776) := Lib.hid (by
    have hp := ordL_perm t l
    have hj := joinL_length l
    refine ⟨by rw [hp.length_eq]; omega, fun x hx => ?_⟩
    have hx' := hp.mem_iff.1 hx
    have h1 := (joinL_norm l).pos x hx'
    have h2 := posTot_of (joinL_norm l) hx'
    rw [joinL_tot] at h2
    have h3 := posTot_le20 (l := l) (fun y hy => (lot_range (hin y hy).1).2) x.good
    omega)
  have HTAB := Lib.hid htab
  have HAP := Lib.hid hap
  have HTT := Lib.hid htt
  generalize ordL t l = E at *
  generalize txt (markB (bt own) first.toNat) = mk at *
  have HFI := Lib.hid hfirst
  clear hap htt hs hl htab hs1 hs2 hin hm hfirst
  go_enter Tryz.func29, Tryz.ntmps29
  go_wp2_with (first | ((with_reducible refine HMK.out.mono ?_); rintro e w1 ⟨rfl, hb1⟩; have HB1 := Lib.hid hb1; clear hb1) | ((with_reducible refine (HW1.out _ HB1.out).mono ?_); rintro e w2 ⟨rfl, hb2⟩; have HB2 := Lib.hid (HB1.out.trans (hb2.mono HB1.out.size)); clear hb2) | ((with_reducible refine (HW2.out _ HB2.out).mono ?_); rintro e w3 ⟨rfl, hb3⟩; have HB3 := Lib.hid (HB2.out.trans (hb3.mono HB2.out.size)); clear hb3) | ((with_reducible refine (HOR.out _ HB3.out).mono ?_); rintro e w4 ⟨v4, rfl, ho4, hb4⟩; have HO4 := Lib.hid ho4; have HB4 := Lib.hid (HB3.out.trans (hb4.mono HB3.out.size)); have HL4 := Lib.hid (own_lots ho4 rfl); obtain ⟨a4, c4, rfl⟩ : ∃ a c, v4 = .slice a E.length c := (by simpa using HL4.out.shape); clear ho4 hb4) | fail)
  obtain ⟨B, hBe⟩ : ∃ B, B = w4.heap.size := ⟨_, rfl⟩
  have HBe := Lib.hid hBe
  clear hBe
  have HWB : Hid (w.heap.size ≤ B) := Lib.hid (by rw [HBe.out]; exact HB4.out.size)
  have HVW : Hid (∀ V, Below B w4 V → Below w.heap.size w V) := Lib.hid (fun V hV => HB4.out.trans (hV.mono HWB.out))
  have hE20 := HEL.out.1
  go_loopw [16, 17, 19, 52] (fun v2 _ _ i wr => ∃ (k : Nat) (R : List Bv), k ≤ E.length ∧ i = .int .i64 k ∧ Pk1 t E w4 wr v2 B k R) (fun _ _ _ i _ => E.length - (intOf i).toNat)
  case atStart => exact ⟨0, [], Nat.zero_le _, rfl, BsAt.nil _ _, by simp, rfl, (fun b hb => by cases hb), Below.refl _ _⟩
  case round =>
    obtain ⟨k, R, hk, rfl, hin⟩ := hrel
    obtain ⟨a2, c2, rfl⟩ := Ord.row_slice hin.at'.own
    have HBL := Lib.hid hin.below
    by_cases hlt : k < E.length
    · obtain ⟨b, off, ha4, -, hb, hc⟩ := HL4.out.at (i := k) (by simpa using hlt)
      subst ha4
      have d0 := (hin.below.cell (p := ⟨b, off + k * 2, none⟩) (by rw [HBe.out]; exact hb)).trans (hc k E[k].row (by simp [hlt]) 0 _ rfl)
      have d1 := (hin.below.cell (p := ⟨b, off + k * 2 + 1, none⟩) (by rw [HBe.out]; exact hb)).trans (hc k E[k].row (by simp [hlt]) 1 _ rfl)
      have hx := HEL.out.2 _ (List.getElem_mem hlt)
      have hdone := hin.done
      rw [List.drop_eq_getElem_cons hlt, packB] at hdone
      generalize E[k] = x at *
      obtain ⟨xn, xc⟩ := x
      simp only at d0 d1 hx hdone
      have hkl : k ≤ 1000 := by omega
      have hBw : B ≤ wr.heap.size := by rw [HBe.out]; exact hin.below.size
      have al := one_below wr (.cells #[.string xn, .int .i64 xc] 107)
      have hB1 : B ≤ (wr.alloc (.cells #[.string xn, .int .i64 xc] 107)).heap.size := Nat.le_trans hBw al.size
      have hbal := hin.below.trans (al.mono hBw)
      have HADD := Lib.hid (add_any t xn xc bt' bm (.slice a2 R.length c2) R B k _ (fun V hV => HAP.out.below (HVW.out V (hbal.trans hV))) (fun V hV => HTAB.out.below (HVW.out V (hbal.trans hV))) hn hok (hin.at'.below al) hB1 hx.1 hx.2 hin.len hin.max hkl)
      have HAL := Lib.hid (addB_len (t := t) (x := ⟨xn, xc⟩) (bs := R.map Bv.b) (by simpa using hin.len))
      have HAM := Lib.hid (addB_max (t := t) (x := ⟨xn, xc⟩) hin.max)
      have HBA := Lib.hid hbal
      obtain ⟨q, hq⟩ : ∃ q, q = addB t ⟨xn, xc⟩ (R.map Bv.b) := ⟨_, rfl⟩
      rw [← hq] at HADD HAL HAM hdone
      have HD := Lib.hid hdone
      have tk : ((k : Nat) : Int) < (E.length : Int) := by omega
      clear hin hb hc hx hdone hBw al hB1 hbal hq
      go_wp2_with fail
      refine HADD.out.mono ?_
      rintro e w5 ⟨hb5, hq⟩
      have HB5 := Lib.hid (HBA.out.trans hb5)
      clear hb5
      rcases hq with ⟨h0, rfl⟩ | ⟨h0, v3, R3, rfl, hat, hR3⟩
      · have HQ : Hid (packB t E [] = (q.1, [])) := Lib.hid (by rw [HD.out, if_neg h0])
        have t0 : (q.1 != 0) = true := by simp [h0]
        have H0 := Lib.hid h0
        generalize q.1 = m at *
        clear h0 HD
        go_wp2_with fail
        go_ret2
        exact ⟨HVW.out _ HB5.out, .inl ⟨by rw [HPR.out, HQ.out, if_neg H0.out]; exact H0.out, by rw [HPR.out, HQ.out, if_neg H0.out]; rfl⟩⟩
      · have HP : Hid (Pk1 t E w4 w5 v3 B (k + 1) R3) := Lib.hid ⟨hat, by have := HAL.out; rw [← hR3] at this; simpa using this, by rw [HD.out, if_pos h0, hR3], by rw [hR3]; exact HAM.out, HB5.out⟩
        clear hat hR3 h0 HD HAM HAL
        go_wp2_with fail
        go_roundw
        case rel => exact ⟨k + 1, R3, by omega, by go_num, HP.out⟩
        case measure => (simp [intOf]) <;> omega
    · obtain ⟨bs, hbs⟩ : ∃ bs, bs = R.map Bv.b := ⟨_, rfl⟩
      have hlen := hin.len
      have hbl : bs.length = R.length := by rw [hbs, List.length_map]
      have hdone : packB t E [] = (0, bs) := by
        have h1 := hin.done
        rw [List.drop_of_length_le (by omega), ← hbs] at h1
        exact h1
      have HP0 : Hid (Pk2 own first.toNat bs w4 wr (.slice a2 R.length c2) B 0 R) := Lib.hid ⟨hin.at', hbl.symm, by rw [← hbs]; simp [markAll], hin.below⟩
      have HBB := Lib.hid hbl
      have HPQ : Hid (packR t first own l = if bs ≠ [] ∧ 999999 < first + bs.length - 1 then (3, []) else (0, markAll own first.toNat bs)) := Lib.hid (by rw [HPR.out, hdone, if_pos rfl])
      have tkn : ¬ ((k : Nat) : Int) < (E.length : Int) := by omega
      clear hin hdone hbs hbl hlt
      go_wp2_with fail
      go_loopw [17, 20, 69] (fun _ _ i wr => ∃ (k : Nat) (Q : List Bv), k ≤ R.length ∧ i = .int .i64 k ∧ Q.length = R.length ∧ Pk2 own first.toNat bs w4 wr (.slice a2 R.length c2) B k Q ∧ (k = 0 ∨ first + k ≤ 1000000)) (fun _ _ i _ => R.length - (intOf i).toNat)
      case atStart => exact ⟨0, R, Nat.zero_le _, rfl, rfl, HP0.out, .inl rfl⟩
      case round =>
        obtain ⟨k, Q, hk, rfl, hql, hin, hfk⟩ := hrel
        have HBL := Lib.hid hin.below
        by_cases hlt : k < R.length
        · have hkq : k < Q.length := by omega
          obtain ⟨bb, cap, cur, hv, hcur, h3, h4, e0, e1, e2⟩ := hin.at'.at hkq
          rw [hql] at hv
          obtain ⟨rfl, rfl⟩ : a2 = some ⟨bb, 0, none⟩ ∧ c2 = cap := by
            simp only [Value.slice.injEq, true_and] at hv
            exact hv
          have hfi := HFI.out
          obtain ⟨m, hm⟩ : ∃ m : Nat, first.toNat + k = m := ⟨_, rfl⟩
          have hfm : first + (k : Int) = (m : Int) := by omega
          have hmk2 := mkMake_any own (first + k) wr (HTT.out.below (HVW.out _ HBL.out))
          have HM2 : Hid (Calls Tryz.prog 15 #[.string own, .int .i64 (first + k)] wr (Ret wr (.tuple #[.string (if makeC (bt own) (first + k) = 0 then txt (markB (bt own) (first + k).toNat) else ⟨#[]⟩), .int .i64 (makeC (bt own) (first + k))]))) := Lib.hid hmk2
          have HST := Lib.hid (fun W (hW : Below wr.heap.size wr W) => pk2_step (show Pk2 own first.toNat bs w4 wr (.slice (some ⟨bb, 0, none⟩) Q.length c2) B k Q by rw [hql]; exact hin) hkq hcur hW)
          have HX := Lib.hid hcur
          obtain ⟨om, hom⟩ : ∃ m : ByteArray, cur[k * 3]? = some (.string m) := ⟨_, e0⟩
          have HE0 := Lib.hid hom
          clear hom
          have HBW := Lib.hid (show B ≤ wr.heap.size by rw [HBe.out]; exact hin.below.size)
          have tk : ((k : Nat) : Int) < (R.length : Int) := by omega
          have HQL := Lib.hid hql
          by_cases h9 : first + (k : Int) ≤ 999999
          · have hmc : makeC (bt own) (first + k) = 0 := by rw [makeC, if_pos hfi.2.2, if_pos (by omega)]
            rw [hmc, if_pos rfl, show (first + (k : Int)).toNat = first.toNat + k by omega] at HM2
            have w1 : wrap64 (first + (k : Int)) = first + k := IntWalk.wrap64_in _ (by omega)
            have H9 := Lib.hid h9
            generalize txt (markB (bt own) (first.toNat + k)) = mm at *
            clear hin hcur h3 h4 e0 e1 e2 hfm hm hmk2 hmc h9 hkq hql
            go_wp2_with (first
              | ((with_reducible refine HM2.out.mono ?_); rintro e w6 ⟨rfl, hb6⟩; have HB6 := Lib.hid hb6; have hx := blk hb6 (lt_blk HX.out) HX.out; have f0 := free_blk hx (k * 3); have y0 := (cell_blk hx (k * 3)).trans HE0.out; clear hx hb6)
              | fail)
            go_roundw
            case rel =>
              obtain ⟨Q', h1, h2⟩ := HST.out _ HB6.out
              have := HQL.out
              exact ⟨k + 1, Q', by omega, by go_num, by omega, by rw [← HQL.out]; exact h2, .inr (by have := H9.out; omega)⟩
            case measure => (simp [intOf]) <;> omega
          · have hmc : makeC (bt own) (first + k) = 3 := by rw [makeC, if_pos hfi.2.2, if_neg (by omega)]
            rw [hmc] at HM2
            have w1 : wrap64 (first + (k : Int)) = first + k := IntWalk.wrap64_in _ (by omega)
            have HQ : Hid (packR t first own l = (3, [])) := Lib.hid (by
              rw [HPQ.out, if_pos]
              have := HBB.out
              refine ⟨fun e => ?_, by omega⟩
              rw [e] at this
              simp at this
              omega)
            have hgB := (hin.at'.own.lt bb rfl).1
            have HGB := Lib.hid hgB
            clear hin hcur h3 h4 e0 e1 e2 hfm hm hmk2 hmc h9 hkq hql hgB
            go_wp2_with (first
              | ((with_reducible refine HM2.out.mono ?_); rintro e w6 ⟨rfl, hb6⟩; have HB6 := Lib.hid hb6; have hx := blk hb6 (lt_blk HX.out) HX.out; have f0 := free_blk hx (k * 3); have y0 := (cell_blk hx (k * 3)).trans HE0.out; clear hx hb6)
              | fail)
            go_ret2
            refine ⟨HVW.out _ ((HBL.out.trans (HB6.out.mono HBW.out)).trans ⟨rfl, rfl, rfl, by simp [World.setCell], fun j hj => Below.heap_setCell w6 _ _ j (fun e => ?_)⟩), .inl ⟨by rw [HQ.out]; decide, by rw [HQ.out]; rfl⟩⟩
            have := HGB.out
            simp only at e
            omega
        · have tkn : ¬ ((k : Nat) : Int) < (R.length : Int) := by omega
          have HQ : Hid (packR t first own l = (0, Q.map Bv.b)) := Lib.hid (by
            have h1 := hin.done
            have h2 := HBB.out
            rw [HPQ.out, if_neg (fun h => by
              have h3 : bs.length ≠ 0 := fun e => h.1 (List.length_eq_zero_iff.1 e)
              omega), h1, List.take_of_length_le (by omega), List.drop_of_length_le (by omega), List.append_nil])
          have HAT : Hid (BsAt wr (.slice a2 R.length c2) Q w.heap.size) := Lib.hid (hin.at'.base HWB.out)
          clear hin hlt
          go_wp2_with fail
          go_ret2
          exact ⟨HVW.out _ HBL.out, .inr ⟨by rw [HQ.out], _, Q, rfl, HAT.out, by rw [HQ.out]⟩⟩
end Go.Proofs.YtbigoifpfkdkjaaGreatDoor.Sc
