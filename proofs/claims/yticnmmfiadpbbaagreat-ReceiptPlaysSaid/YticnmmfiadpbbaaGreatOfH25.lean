/- What somebody holds: the program's Of. -/
import Derived.Test.YticnmmfiadpbbaaGreatOf25
namespace Go.Proofs.YticnmmfiadpbbaaGreat.Sc
open Go Go.RowKit Go.ChangeShapes Go.WideShapes Go.ChangeAt
set_option maxRecDepth 100000

set_option maxHeartbeats 8000000 in
theorem ofH_any {k bh bm bu : Nat} {h : Hs} (b : ByteArray) (w : World) (H : Hsx w bh bm bu h) (hok : HsOk k h) (hk : k ≤ 1000) :
    Calls Tryz.prog 10 #[.pointer (some ⟨bh, 0, none⟩), .string b] w (OfP w (heldL h b)) := by
  obtain ⟨es, us, H⟩ := H
  have HH := Lib.hid H
  have HND := Lib.hid H.rm.nodup
  have hra := (restL_all H).resolve_right (fun q => q hok.up)
  have HUP := Lib.hid hok.up
  have HLL : Hid (h.L.length ≤ 64000 ∧ (∀ r ∈ h.L, r.lots.length ≤ 64)) := Lib.hid ⟨by have := hok.len; omega, fun r hr => (hok.all r hr).len⟩
  have HRA := Lib.hid hra
  have k1 := cell_blk H.box 1
  simp only [List.getElem?_toArray, List.getElem?_cons_succ, List.getElem?_cons_zero] at k1
  obtain ⟨i0, hi, hz, hsz, hby⟩ := info_parts infoRv
  have HI := Lib.hid (And.intro hi (And.intro hz (And.intro hsz hby)))
  clear H hra hok hi hz hsz hby hk
  go_enter Tryz.func10, Tryz.ntmps10
  go_wp2_with (first
    | ((with_reducible refine Mp.wpl_range ?_ ?_ Tryz.underlying58 HH.out.rm ?_); rfl; rfl; intro w2 hit2 hal2; have HIT2 := Lib.hid hit2; have HB2 : Hid (Below w.heap.size w w2 ∧ w2.heap.size = w.heap.size + 1) := Lib.hid (by obtain ⟨o, rfl⟩ := hal2; exact ⟨one_below _ _, by simp⟩); clear hit2 hal2 k1; go_frame)
    | fail)
  go_loopw [5] (fun a wr => ∃ (A : List Ro) (todo : Mp.Ents), wr.ownsRow (w.heap.size + 1) 34 5 a A.length (roCells A) ∧ (∀ y ∈ A, wr.ownsRow (w.heap.size + 1) 47 2 y.lv y.rc.lots.length (ltCells y.rc.lots)) ∧ ((A.map Ro.rc) ++ (restL todo h.L).filter (fun r => decide (r.hold = b))).Perm (heldL h b) ∧ A.length ≤ h.L.length ∧
    Mp.IterAt wr w.heap.size bm es todo ∧ Below w.heap.size w wr ∧ (∀ q, q ∈ todo → q ∈ es) ∧ (Mp.mkeys todo).Nodup) (fun _ wr => Mp.itLeft wr w.heap.size bm)
  case atStart =>
    exact ⟨[], es, World.ownsRow_nil _ _ _ _, fun y hy => (by cases hy), by rw [HRA.out]; exact List.Perm.refl _, Nat.zero_le _, HIT2.out, HB2.out.1, fun _ h => h, HND.out⟩
  case round =>
    obtain ⟨A, todo, hown, hlots, hperm, hlen, hit, hbel, hsub, hnt⟩ := hrel
    have HOWN := Lib.hid hown
    have HLOTS := Lib.hid hlots
    have HPERM := Lib.hid hperm
    have HLEN := Lib.hid hlen
    have HIT := Lib.hid hit
    have HBEL := Lib.hid hbel
    have HSUB := Lib.hid hsub
    have HNT := Lib.hid hnt
    have HWS : Hid (w.heap.size + 1 ≤ wr.heap.size) := Lib.hid hit.lt.1
    clear hown hlots hperm hlen hit hbel hsub hnt
    go_wp2_with (first
      | ((with_reducible refine Mp.wpl_next ?_ ?_ HIT.out ?_ ?_); rfl; rfl)
      | fail)
    · intro h0
      have HPD : Hid ((A.map Ro.rc).Perm (heldL h b)) := Lib.hid (by
        have := HPERM.out
        rw [h0, restL_nil] at this
        simpa using this)
      have HSO := Lib.hid (fun W h => sortRc_any A u5 A.length (w.heap.size + 1) W h rfl (by have := HLEN.out; have := HLL.out.1; omega))
      clear h0
      go_wp2_with (first
        | ((with_reducible refine (HSO.out _ HOWN.out).mono ?_); rintro e w3 ⟨rfl, D', hp3, hs3, ho3, hg3⟩; have HS3 := Lib.hid (And.intro hp3 hs3); have HO3 := Lib.hid ho3; have HG3 := Lib.hid hg3; clear hp3 hs3 ho3 hg3)
        | fail)
      go_ret
      have hD : D'.map Ro.rc = heldL h b := sorted_rcs (List.pairwise_map.2 HS3.out.2) ((HS3.out.1.map _).trans HPD.out) (HUP.out.filter _)
      refine ⟨HBEL.out.grown HG3.out HBEL.out.size (fun k hk => by have := (HOWN.out.lt k hk).1; omega), D', _, rfl, hD, own_sl HO3.out (by rw [List.length_map]; exact HS3.out.1.length_eq.symm) (ro_rows D'), fun y hy => ?_⟩
      have hy' := HS3.out.1.mem_iff.1 hy
      have h1 := HLOTS.out y hy'
      exact own_lots (h1.kept HG3.out (by
        cases hv : y.lv.ownBlock with
        | none => exact .inl rfl
        | some q => exact .inr fun e => own_types h1 HOWN.out lot_receipt q hv e.symm)) rfl
    · intro key sv wc hmem hitc hgc hsc hen
      obtain ⟨r, lv, rfl, hr1, hr2, hsl⟩ := comes HH.out HND.out hmem HSUB.out HNT.out
      have HKC := Lib.hid (Keep.of_grown hgc)
      have HITC := Lib.hid hitc
      have HMEM := Lib.hid hmem
      have HBELC : Hid (Below w.heap.size w wc) := Lib.hid (HKC.out.behind HBEL.out HBEL.out.size (fun k hk e => by have := Option.some.inj e; omega))
      have HXS : Hid (Sl wc 2 lv (r.lots.map Lt.row)) := Lib.hid (hsl.below HBELC.out (Nat.le_refl _))
      have HOWNC := Lib.hid (ownsRow_keep HOWN.out HKC.out (fun b hb e => by have h1 := (HOWN.out.lt b hb).1; have h2 := Option.some.inj e; omega))
      have HLOTC : Hid (∀ y ∈ A, wc.ownsRow (w.heap.size + 1) 47 2 y.lv y.rc.lots.length (ltCells y.rc.lots)) := Lib.hid (fun y hy => ownsRow_keep (HLOTS.out y hy) HKC.out (fun b hb e => by have h1 := ((HLOTS.out y hy).lt b hb).1; have h2 := Option.some.inj e; omega))
      have HRP : Hid ((restL todo h.L).Perm (r :: restL (Mp.mdel todo key) h.L)) := Lib.hid (by rw [restL_del]; exact rdel_perm (HUP.out.filter _) hr2)
      have HAL : Hid (r.hold = b → A.length + 1 ≤ h.L.length) := Lib.hid (fun e => by
        have h1 := HPERM.out.length_eq
        have h2 := (HRP.out.filter (fun r => decide (r.hold = b))).length_eq
        rw [List.filter_cons_of_pos (by simp [e]), List.length_cons] at h2
        rw [List.length_append, List.length_map] at h1
        have h3 : (heldL h b).length ≤ h.L.length := List.length_filter_le _ _
        omega)
      have HRL : Hid (r.lots.length ≤ 64) := Lib.hid (HLL.out.2 r (rfind_some hr1).1)
      obtain ⟨xn, xh, xo, xl, xd⟩ := r
      obtain ⟨ax, cx, elv⟩ := hsl.shape
      simp only [List.length_map] at elv
      subst elv
      simp only [Rv.cells] at hen
      have HSZ : Hid (w.heap.size + 1 ≤ wc.heap.size) := Lib.hid (Nat.le_trans HWS.out HKC.out.size)
      have HB5 := Lib.hid (one_below wc (.cells #[.string xn, .string xh, .string xo, .slice ax xl.length cx, .int .i64 xd] 34))
      have HXS5 := Lib.hid (Sl.below HXS.out HB5.out (Nat.le_refl _))
      clear hmem hitc hgc hsc hr1 hr2 hsl
      simp only [Rv.cells]
      by_cases hho : xo = b
      rotate_left
      · have th : (xo.toList == b.toList) = false := by
          have : ¬ xo.toList = b.toList := fun e => hho (by rw [ByteArray.toList_eq, ByteArray.toList_eq] at e; exact bt_inj e)
          simp [this]
        have HP1 : Hid ((A.map Ro.rc ++ (restL (Mp.mdel todo key) h.L).filter (fun r => decide (r.hold = b))).Perm (heldL h b)) := Lib.hid (by
          refine List.Perm.trans (List.Perm.append_left _ ?_) HPERM.out
          have := (HRP.out.filter (fun r => decide (r.hold = b))).symm
          rwa [List.filter_cons_of_neg (by simp [hho])] at this)
        clear hho
        go_wp2_with fail
        have HIT6 : Hid (Mp.IterAt (wc.alloc (.cells #[.string xn, .string xh, .string xo, .slice ax xl.length cx, .int .i64 xd] 34)) w.heap.size bm es (Mp.mdel todo key)) := Lib.hid (HITC.out.same (HB5.out.block _ HITC.out.lt.1) (HB5.out.block _ HITC.out.lt.2))
        go_roundw
        case rel => exact ⟨A, Mp.mdel todo key, ownsRow_below HOWNC.out HB5.out, fun y hy => ownsRow_below (HLOTC.out y hy) HB5.out, HP1.out, HLEN.out, HIT6.out, HBELC.out.trans (HB5.out.mono HBELC.out.size), fun q hq => HSUB.out q (List.mem_filter.1 hq).1, Mp.mdel_nodup key HNT.out⟩
        case measure =>
          rw [Mp.itLeft_eq HIT6.out, Mp.itLeft_eq HIT.out]
          exact Mp.mdel_lt HMEM.out
      · have th : (xo.toList == b.toList) = true := by rw [hho]; simp
        have HP1 : Hid (∀ (a : Option Addr) (c : Nat), (((A ++ [Ro.mk ⟨xn, xh, xo, xl, xd⟩ a c]).map Ro.rc) ++ (restL (Mp.mdel todo key) h.L).filter (fun r => decide (r.hold = b))).Perm (heldL h b)) := Lib.hid (fun a c => by
          refine List.Perm.trans ?_ HPERM.out
          rw [List.map_append, List.append_assoc]
          refine List.Perm.append_left _ ?_
          have := (HRP.out.filter (fun r => decide (r.hold = b))).symm
          rwa [List.filter_cons_of_pos (by simp [hho])] at this)
        have HAL1 := Lib.hid (HAL.out hho)
        have HCR := Lib.hid (copyR_any ⟨xn, xh, xo, xl, xd⟩ (.slice ax xl.length cx) (wc.alloc (.cells #[.string xn, .string xh, .string xo, .slice ax xl.length cx, .int .i64 xd] 34)) HXS5.out (by have := HRL.out; simp only at this ⊢; omega))
        unfold CopyRP at HCR
        simp only [Rv.cells] at HCR
        clear hho
        go_wp2_with (first
          | ((with_reducible refine HCR.out.mono ?_); rintro e w6 ⟨hb6, v6, rfl, ho6⟩; obtain ⟨a6, c6, e6⟩ := row_shape ho6; subst e6; have HO6 := Lib.hid (ownsRow_base ho6 (Nat.le_trans HSZ.out HB5.out.size)); have HB6 := Lib.hid (HB5.out.trans (hb6.mono HB5.out.size)); have HOWN6 := Lib.hid (ownsRow_below HOWNC.out HB6.out); have HONE := Lib.hid (ro_one xn xh xo a6 xl.length c6 xd)
             have HL6 : Hid (A.length + 1 ≤ maxLen ∧ (A.length + 1) * 80 ≤ 140737488355328 ∧ w.heap.size + 1 ≤ w6.heap.size) := Lib.hid (by have h1 := HAL1.out; have h2 := HLL.out.1; have h3 := HB6.out.size; have h4 := HSZ.out; simp only [maxLen]; omega)
             clear hb6 ho6 hen)
          | (((with_reducible refine Any.wpl_push ?_ ?_ ?_ Tryz.underlying26 HI.out.1 HI.out.2.1 HI.out.2.2.1 HI.out.2.2.2 ?_ (by decide) ?_ (HONE.out) (HOWN6.out) HL6.out.1 HL6.out.2.1 HL6.out.2.2 ?_); rfl; rfl; rfl; rfl; rfl; intro v7 w7 hown7 hgrow7 hwho7); have HOWN7 := Lib.hid hown7; have HG7 := Lib.hid hgrow7; clear hown7 hgrow7 hwho7)
          | fail)
        have HK7 := Lib.hid (Keep.of_grown HG7.out)
        have HIT7 : Hid (Mp.IterAt w7 w.heap.size bm es (Mp.mdel todo key)) := Lib.hid (IterAt.keep (HITC.out.same (HB6.out.block _ HITC.out.lt.1) (HB6.out.block _ HITC.out.lt.2)) HK7.out (fun e => by have := (HOWN6.out.lt _ e).1; omega) (fun e => by have h1 := (HOWN6.out.lt _ e).1; have h2 := HH.out.lt.2.1; omega))
        go_roundw
        case rel =>
          refine ⟨A ++ [Ro.mk ⟨xn, xh, xo, xl, xd⟩ a6 c6], Mp.mdel todo key, ?_, fun y hy => ?_, HP1.out a6 c6, by rw [List.length_append]; exact HAL1.out, HIT7.out, ?_, fun q hq => HSUB.out q (List.mem_filter.1 hq).1, Mp.mdel_nodup key HNT.out⟩
          · rw [List.length_append, roCells_snoc]
            exact HOWN7.out
          · have hy6 : w6.ownsRow (w.heap.size + 1) 47 2 y.lv y.rc.lots.length (ltCells y.rc.lots) := by
              rcases List.mem_append.1 hy with hy | hy
              · exact ownsRow_below (HLOTC.out y hy) HB6.out
              · obtain rfl := List.mem_singleton.1 hy
                exact HO6.out
            exact hy6.kept HG7.out (by
              cases hv : y.lv.ownBlock with
              | none => exact .inl rfl
              | some q => exact .inr fun e => own_types hy6 HOWN6.out lot_receipt q hv e.symm)
          · exact (HBELC.out.trans (HB6.out.mono HBELC.out.size)).grown HG7.out (Nat.le_trans HBELC.out.size HB6.out.size) (fun k hk => by have := (HOWN6.out.lt k hk).1; omega)
        case measure =>
          rw [Mp.itLeft_eq HIT7.out, Mp.itLeft_eq HIT.out]
          exact Mp.mdel_lt HMEM.out
end Go.Proofs.YticnmmfiadpbbaaGreat.Sc
