/- Pack: by the reference. -/
import Derived.Test.YtgnfdplphpejaaaGreatDoorPack12
import Derived.Test.YtgnfdplphpejaaaGreatDoorRefOrd12
import Derived.Test.YtgnfdplphpejaaaGreatDoorRefMkC12
import Derived.Test.YtgnfdplphpejaaaGreatDoorRefGo12
import Derived.Test.YtgnfdplphpejaaaGreatDoorAnyLast
import Derived.Deep.CutRange
namespace Go.Proofs.YtgnfdplphpejaaaGreatDoor.Sc
open Go Go.RowKit Go.ChangeShapes Go.WideShapes Go.ChangeAt
set_option maxRecDepth 100000
/-- Of boxes: few lots, of names and numbers that are no greater than may be. -/
def BsOk (M : Nat) (bs : List Bx) : Prop := ∀ b ∈ bs, b.lots.length ≤ M ∧ ∀ x ∈ b.lots, x.fit ∧ x.cnt ≤ 1099511627776
theorem lots_with {M : Nat} {L : List Lt} {g : ByteArray} {n : Int} (h : L.length ≤ M ∧ ∀ x ∈ L, x.fit ∧ x.cnt ≤ 1099511627776) (hg : (⟨g, 0⟩ : Lt).fit) (hn : n ≤ 1099511627776) :
    (L ++ [(⟨g, n⟩ : Lt)]).length ≤ M + 1 ∧ ∀ x ∈ L ++ [(⟨g, n⟩ : Lt)], x.fit ∧ x.cnt ≤ 1099511627776 := by
  refine ⟨by have := h.1; simp; omega, fun x hx => ?_⟩
  rcases List.mem_append.1 hx with h1 | h1
  · exact h.2 x h1
  · rw [List.mem_singleton.1 h1]; exact ⟨⟨hg.good⟩, hn⟩
theorem fillB_ok {t : List Gd} {g : ByteArray} {M : Nat} (hg : (⟨g, 0⟩ : Lt).fit) : ∀ (bs : List Bx) (c : Int), c ≤ 1099511627776 → BsOk M bs → BsOk (M + 1) (fillB t g bs c).1
  | [], _, _, _ => by intro b hb; cases hb
  | x :: r, c, hc, h => by
    have hx := h x List.mem_cons_self
    have hn := fillN_le t x.kind x.lots g c
    intro b hb
    simp only [fillB] at hb
    rcases List.mem_cons.1 hb with rfl | hb
    · split
      · exact lots_with hx hg (by omega)
      · exact ⟨by have := hx.1; omega, hx.2⟩
    · exact fillB_ok hg r _ (by omega) (fun y hy => h y (List.mem_cons_of_mem _ hy)) b hb
theorem newB_ok {t : List Gd} {g : ByteArray} {M : Nat} (hg : (⟨g, 0⟩ : Lt).fit) : ∀ (f : Nat) (bs : List Bx) (c : Int), c ≤ 1099511627776 → BsOk (M + 1) bs → BsOk (M + 1) (newB t g f bs c).2
  | 0, bs, _, _, h => h
  | f + 1, bs, c, hc, h => by
    rw [newB]
    split
    · exact h
    · split
      · intro b hb; cases hb
      · rename_i k hk
        have hn := fillN_le t k [] g c
        split
        · intro b hb; cases hb
        · refine newB_ok hg f _ _ (by omega) fun b hb => ?_
          rcases List.mem_append.1 hb with hb | hb
          · exact h b hb
          · rw [List.mem_singleton.1 hb]
            refine ⟨by simp, fun x hx => ?_⟩
            rw [List.mem_singleton.1 hx]
            exact ⟨⟨hg.good⟩, by show ((fillN t k [] g c : Nat) : Int) ≤ _; omega⟩
theorem fillB_c {t : List Gd} {g : ByteArray} : ∀ (bs : List Bx) (c : Int), (fillB t g bs c).2 ≤ c
  | [], _ => Int.le_refl _
  | x :: r, c => by
    have := fillB_c (t := t) (g := g) r (c - fillN t x.kind x.lots g c)
    show (fillB t g r (c - fillN t x.kind x.lots g c)).2 ≤ c
    omega
theorem addB_ok {t : List Gd} {x : Lt} {M : Nat} {bs : List Bx} (hx : x.fit) (hc : x.cnt ≤ 1099511627776) (h : BsOk M bs) : BsOk (M + 1) (addB t x bs).2 :=
  newB_ok ⟨hx.good⟩ _ _ _ (Int.le_trans (fillB_c _ _) hc) (fillB_ok ⟨hx.good⟩ bs _ hc h)
theorem row_set {w : World} {B sz n b o : Nat} {e : TypeId} {v u : Value} {xs : List Value} (h : w.ownsRow B e sz v n xs) (hb : ∀ k, v.ownBlock = some k → k ≠ b) : (w.setCell ⟨b, o, none⟩ u).ownsRow B e sz v n xs :=
  Any.ownsRow_same h fun k hk => Below.heap_setCell w _ _ k (fun e => hb k hk e)
theorem filR_store {wr w7 : World} {bb off : Nat} {cur : Array Value} {lv v' : Value} {Lq : List Lt} {g : ByteArray} {n B7 : Nat} (hn : 0 < n) (hcur : wr.heap[bb]? = some (.cells cur 45 (0, 0))) (h7 : Below wr.heap.size wr w7) (hB : wr.heap.size ≤ B7)
    (hr : w7.ownsRow B7 38 2 v' (Lq ++ [(⟨g, (n : Int)⟩ : Lt)]).length (ltCells (Lq ++ [(⟨g, (n : Int)⟩ : Lt)]))) : FilR wr.drew bb off cur lv Lq g n (w7.setCell ⟨bb, off + 2, none⟩ v') := by
  have hh := blk h7 (lt_blk hcur) hcur
  have hlt := lt_blk hcur
  have hne : ∀ k, v'.ownBlock = some k → k ≠ bb := fun k hk => by have := (hr.lt k hk).1; omega
  refine ⟨rfl, .inr ⟨hn, v', ?_, ?_, fun b hb => .inr (Nat.le_trans hB (hr.lt b hb).1), ⟨h7.os, h7.tape, h7.output, by simpa [World.setCell] using h7.size, fun j hj hF => ?_⟩⟩⟩
  · have h1 := row_set (o := off + 2) (u := v') (ownsRow_base hr (Nat.zero_le _)) hne
    rwa [List.length_append] at h1
  · simp [World.setCell, Array.getElem?_modify, hh]
  · exact (Below.heap_setCell w7 _ _ j (fun e => hF (.inl e))).trans (h7.block j hj)
theorem in1_skip {t : List Gd} {g : ByteArray} {c0 c : Int} {bs : List Bx} {w wr V : World} {v : Value} {b5 B k : Nat} {R : List Bv} (h : In1 t g c0 bs w wr v b5 B k R c) (hk : k < R.length)
    (hn : fillN t R[k].b.kind R[k].b.lots g c = 0) (hV : Below wr.heap.size wr V) (hB5 : B ≤ b5) : In1 t g c0 bs w V v b5 B (k + 1) R c := by
  have hkb : k < bs.length := by rw [← h.len]; exact hk
  have h1 := h.rest
  rw [List.drop_eq_getElem_cons hk, List.drop_eq_getElem_cons hkb, List.map_cons] at h1
  obtain ⟨hbk, hrest⟩ := List.cons.inj h1
  have hnx := fillB_next (t := t) (g := g) (c := c) hkb
  rw [← hbk, hn] at hnx
  have h5lt := lt_blk h.box
  refine ⟨h.at'.below hV, h.len, (hV.block b5 h5lt).trans h.box, h.lo, h.hi, ?_, hrest, h.off, h.below.trans (hV.mono (Nat.le_of_lt (Nat.lt_of_le_of_lt hB5 h5lt)))⟩
  rw [h.done, hnx, if_neg (Nat.lt_irrefl 0), List.take_succ_eq_append_getElem hk, List.map_append, List.append_assoc]
  simp only [List.map_cons, List.map_nil, List.cons_append, List.nil_append, Int.natCast_zero, Int.sub_zero]
theorem grown_setc {V W : World} {r : Option Nat} {b o : Nat} {u : Value} (h : V.grownBy W r) (hb : r ≠ some b) (hlt : b < V.heap.size) : (V.setCell ⟨b, o, none⟩ u).grownBy (W.setCell ⟨b, o, none⟩ u) r := by
  refine ⟨h.os, h.tape, h.output, by simpa [World.setCell] using h.size, fun k hk hne => ?_⟩
  have hk' : k < V.heap.size := by simpa [World.setCell] using hk
  by_cases e : k = b
  · subst e
    have h1 := h.block k hlt hne
    simp [World.setCell, Array.getElem?_modify, h1]
  · rw [Below.heap_setCell W _ _ k (fun e' => e e'), Below.heap_setCell V _ _ k (fun e' => e e')]
    exact h.block k hk' hne
theorem in2_push {t : List Gd} {g : ByteArray} {c0 c kd : Int} {res : Int × List Bx} {w wr V W : World} {v v2 : Value} {b5 B B7 f n : Nat} {Q : List Bv} {a1 : Option Addr} {c1 : Nat} (h : In2 t g c0 res w wr v b5 B f Q c) (hc : ¬ c ≤ 0) (hk : freshK t g c = some kd) (h64 : ¬ 64 ≤ Q.length) (hn : n = fillN t kd [] g c)
    (hV : Below wr.heap.size wr V) (hx : V.ownsRow B7 38 2 (.slice a1 1 c1) 1 (ltCells [⟨g, n⟩])) (hB7 : wr.heap.size ≤ B7) (hB5 : B ≤ b5)
    (ho : W.ownsRow B 45 3 v2 (Q.length + 1) (bvCells Q ++ [.string ⟨#[]⟩, .int .i64 kd, .slice a1 1 c1])) (hg : V.grownBy W v.ownBlock) :
    ∃ f', In2 t g c0 res w (W.setCell ⟨b5, 1, none⟩ (.int .i64 (c - n))) v2 b5 B f' (Q ++ [⟨⟨⟨#[]⟩, kd, [⟨g, n⟩]⟩, .slice a1 1 c1⟩]) (c - n) := by
  have h5lt := lt_blk h.box
  have h5V := Nat.lt_of_lt_of_le h5lt hV.size
  have hbx : V.heap[b5]? = some (.cells #[.string g, .int .i64 c] 38 (0, 0)) := (hV.block b5 h5lt).trans h.box
  have hat := h.at'.below hV
  have one : ∀ (U : World) (cc : Int), U.heap[b5]? = some (.cells #[.string g, .int .i64 cc] 38 (0, 0)) → U.ownsRow 0 38 2 (.slice (some ⟨b5, 0, none⟩) 1 1) 1 [.string g, .int .i64 cc] := fun U cc hU => ⟨rfl, .inr ⟨b5, 1, _, rfl, Nat.zero_le _, hU, Nat.le_refl _, by decide, rfl, rfl⟩⟩
  have hvb : v.ownBlock ≠ some b5 := fun e => own_ne hat.own (one V c hbx) (by decide) b5 e rfl
  have hWb : W.heap[b5]? = some (.cells #[.string g, .int .i64 c] 38 (0, 0)) := (hg.block b5 h5V (fun e => hvb e.symm)).trans hbx
  have hv2 : v2.ownBlock ≠ some b5 := fun e => own_ne ho (one W c hWb) (by decide) b5 e rfl
  have hBw : B ≤ wr.heap.size := Nat.le_of_lt (Nat.lt_of_le_of_lt hB5 h5lt)
  have hnew : ∀ k, (Value.slice a1 1 c1).ownBlock = some k → wr.heap.size ≤ k := fun k hk => Nat.le_trans hB7 (hx.lt k hk).1
  refine in2_next (V := V.setCell ⟨b5, 1, none⟩ (.int .i64 (c - n))) (W := W.setCell ⟨b5, 1, none⟩ (.int .i64 (c - n))) h hc hk h64 hn ?_ ?_ (fun y hy k hk e => ?_) (fun e => ?_) ?_ ?_ hB5 ?_ ?_
  · refine hat.same fun j hj => Below.heap_setCell V _ _ j (fun e => ?_)
    have e : j = b5 := e
    subst e
    rcases hj with hj | ⟨x, hx', hj⟩
    · exact hvb hj
    · exact h.off x hx' hj
  · refine row_set (own_base (ownsRow_base hx (Nat.zero_le _)) fun k hk => Nat.le_trans hBw (hnew k hk)) fun k hk => ?_
    have := hnew k hk
    omega
  · have h1 := ((h.at'.lots y hy).lt k hk).2
    have h2 := hnew k e
    omega
  · have := hnew b5 e
    omega
  · simp [World.setCell, Array.getElem?_modify, hbx]
  · refine (h.below.trans (hV.mono hBw)).trans ⟨rfl, rfl, rfl, by simp [World.setCell], fun j hj => Below.heap_setCell V _ _ j (fun e => ?_)⟩
    have e : j = b5 := e
    omega
  · exact row_set ho fun k hk e => hv2 (by rw [← e]; exact hk)
  · exact grown_setc hg hvb h5V
theorem in2_box {t : List Gd} {g : ByteArray} {c0 c : Int} {res : Int × List Bx} {w wr V W : World} {v : Value} {b5 B f : Nat} {Q : List Bv} (h : In2 t g c0 res w wr v b5 B f Q c) (hV : Below wr.heap.size wr V) (hg : V.grownBy W v.ownBlock) :
    W.heap[b5]? = some (.cells #[.string g, .int .i64 c] 38 (0, 0)) := by
  have h5V := Nat.lt_of_lt_of_le (lt_blk h.box) hV.size
  have hbx : V.heap[b5]? = some (.cells #[.string g, .int .i64 c] 38 (0, 0)) := (hV.block b5 (lt_blk h.box)).trans h.box
  have hvb : v.ownBlock ≠ some b5 := fun e => own_ne (h.at'.below hV).own (show V.ownsRow 0 38 2 (.slice (some ⟨b5, 0, none⟩) 1 1) 1 [.string g, .int .i64 c] from ⟨rfl, .inr ⟨b5, 1, _, rfl, Nat.zero_le _, hbx, Nat.le_refl _, by decide, rfl, rfl⟩⟩) (by decide) b5 e rfl
  exact (hg.block b5 h5V (fun e => hvb e.symm)).trans hbx
theorem in2_row {t : List Gd} {g : ByteArray} {c0 c : Int} {res : Int × List Bx} {w wr V W : World} {v ve : Value} {b5 B f n : Nat} {Q : List Bv} {xs : List Value} (h : In2 t g c0 res w wr v b5 B f Q c) (hV : Below wr.heap.size wr V) (hg : V.grownBy W v.ownBlock)
    (he : wr.ownsRow 0 38 2 ve n xs) : W.ownsRow 0 38 2 ve n xs := by
  have he' := ownsRow_below he hV
  refine Any.ownsRow_same he' fun k hk => hg.block k (he'.lt k hk).2 fun e => ?_
  exact own_ne (h.at'.below hV).own he' (by decide) k e.symm hk
end Go.Proofs.YtgnfdplphpejaaaGreatDoor.Sc
namespace Go.Proofs.YtgnfdplphpejaaaGreatDoor.Sc
open Go Go.RowKit Go.ChangeShapes Go.WideShapes Go.ChangeAt
set_option maxRecDepth 100000
theorem mostI_any (t : List Gd) (k : Int) (l : List Lt) (g : ByteArray) (c : Int) (vt v : Value) (w : World) (hst : Sl w 4 vt (t.map Gd.row)) (hs : Sl w 2 v (l.map Lt.row)) (hf : ∀ x ∈ l, x.fit) (hg : (⟨g, 0⟩ : Lt).fit) (hl : l.length ≤ 40) (hc : ∀ x ∈ l, x.cnt ≤ 1099511627776) (h0 : 0 ≤ c) (hcc : c ≤ 1099511627776)
    (hok : ∀ g ∈ t, gdOk g = true) : Calls Tryz.prog 36 #[vt, .int .i64 k, v, .string g, .int .i64 c] w (Ret w (.int .i64 (fillN t k l g c))) := by
  obtain ⟨n, rfl⟩ : ∃ n : Nat, c = n := ⟨c.toNat, by omega⟩
  exact most_any t k l g n vt v w hst hs hf hg hl hc (by omega) hok
theorem sl_none (w : World) : Sl w 2 (.slice none 0 0) (([] : List Lt).map Lt.row) := .inl ⟨rfl, none, 0, rfl, fun _ => rfl⟩
theorem ordL_fit {t : List Gd} {l : List Lt} (hf : ∀ x ∈ l, x.fit) (hin : AllIn t l) (hl : l.length < 20) : (ordL t l).length < 20 ∧ ∀ x ∈ ordL t l, 0 ≤ x.cnt ∧ x.cnt ≤ 1099511627776 ∧ x.fit := by
  have hp := ordL_perm t l
  have hj := joinL_length l
  refine ⟨by rw [hp.length_eq]; omega, fun x hx => ?_⟩
  have hx' := hp.mem_iff.1 hx
  have h1 := (joinL_norm l).pos x hx'
  have h2 := posTot_of (joinL_norm l) hx'
  rw [joinL_tot] at h2
  have h3 := posTot_le20 (l := l) (fun y hy => (lot_range (hin y hy).1).2) x.good
  obtain ⟨y, hy, e⟩ := joinL_good hx'
  exact ⟨by omega, by omega, ⟨by rw [← e]; exact (hf y hy).good⟩⟩
set_option maxHeartbeats 16000000 in
theorem refPack_any (t : List Gd) (l : List Lt) (first : Int) (own : ByteArray) (vt v : Value) (w : World) (hst : Sl w 4 vt (t.map Gd.row)) (hs : Sl w 2 v (l.map Lt.row)) (hf : ∀ x ∈ l, x.fit) (hl : l.length < 20) (hok : ∀ g ∈ t, gdOk g = true) :
    Calls Tryz.prog 13 #[vt, .int .i64 first, .string own, v] w (PackP w (packR t first own l)) := by
  have HPR : Hid (packR t first own l = if makeC (bt own) first = 0 then
    if sumC t Gd.wt l = 0 then
      if sumC t Gd.vol l = 0 then
        if (packB t (ordL t l) []).1 = 0 then
          if (packB t (ordL t l) []).2 ≠ [] ∧ 999999 < first + (packB t (ordL t l) []).2.length - 1 then (3, []) else (0, markAll own first.toNat (packB t (ordL t l) []).2)
        else ((packB t (ordL t l) []).1, [])
      else (sumC t Gd.vol l, [])
    else (sumC t Gd.wt l, [])
  else (makeC (bt own) first, [])) := Lib.hid rfl
  have HOW := Lib.hid (owner_any own w)
  obtain ⟨n1, hv1, -⟩ := sumV_is t Gd.wt l
  obtain ⟨n2, hv2, -⟩ := sumV_is t Gd.vol l
  have HW1 := Lib.hid (fun W (hW : Below w.heap.size w W) => refWeight_any t l vt v W (hst.below hW (Nat.le_refl _)) (hs.below hW (Nat.le_refl _)) hf (by omega) hok)
  have HW2 := Lib.hid (fun W (hW : Below w.heap.size w W) => refVolume_any t l vt v W (hst.below hW (Nat.le_refl _)) (hs.below hW (Nat.le_refl _)) hf (by omega) hok)
  rw [hv1] at HW1
  rw [hv2] at HW2
  clear hv1 hv2
  cases ho : ownerOk (bt own)
  · rw [ho] at HOW
    have hm : makeC (bt own) first = 1 := by rw [makeC, ho]; rfl
    have HQ : Hid (packR t first own l = (1, [])) := Lib.hid (by rw [HPR.out, hm, if_neg (by decide)])
    clear hst hs hf hl hok hm ho HW1 HW2 HPR
    go_enter Tryz.func13, Tryz.ntmps13
    go_wp2_with (first | ((with_reducible refine HOW.out.mono ?_); rintro e w1 ⟨rfl, hb1⟩; have HB1 := Lib.hid hb1; clear hb1) | fail)
    go_ret2
    exact ⟨HB1.out, .inl ⟨by rw [HQ.out]; decide, by rw [HQ.out]; rfl⟩⟩
  rw [ho] at HOW
  by_cases hneg : first < 0
  · have t1 : decide (first < 0) = true := decide_eq_true hneg
    have hm : makeC (bt own) first = 3 := by rw [makeC, if_pos ho, if_neg (by omega)]
    have HQ : Hid (packR t first own l = (3, [])) := Lib.hid (by rw [HPR.out, hm, if_neg (by decide)])
    clear hst hs hf hl hok hm ho HW1 HW2 HPR hneg
    go_enter Tryz.func13, Tryz.ntmps13
    go_wp2_with (first | ((with_reducible refine HOW.out.mono ?_); rintro e w1 ⟨rfl, hb1⟩; have HB1 := Lib.hid hb1; clear hb1) | fail)
    go_ret2
    exact ⟨HB1.out, .inl ⟨by rw [HQ.out]; decide, by rw [HQ.out]; rfl⟩⟩
  have t1 : decide (first < 0) = false := decide_eq_false hneg
  by_cases hbig : 999999 < first
  · have t2 : decide (999999 < first) = true := decide_eq_true hbig
    have hm : makeC (bt own) first = 3 := by rw [makeC, if_pos ho, if_neg (by omega)]
    have HQ : Hid (packR t first own l = (3, [])) := Lib.hid (by rw [HPR.out, hm, if_neg (by decide)])
    clear hst hs hf hl hok hm ho HW1 HW2 HPR hneg hbig
    go_enter Tryz.func13, Tryz.ntmps13
    go_wp2_with (first | ((with_reducible refine HOW.out.mono ?_); rintro e w1 ⟨rfl, hb1⟩; have HB1 := Lib.hid hb1; clear hb1) | fail)
    go_ret2
    exact ⟨HB1.out, .inl ⟨by rw [HQ.out]; decide, by rw [HQ.out]; rfl⟩⟩
  have t2 : decide (999999 < first) = false := decide_eq_false hbig
  have hm : makeC (bt own) first = 0 := by rw [makeC, if_pos ho, if_pos (by omega)]
  rw [if_pos hm] at HPR
  have HFI := Lib.hid (show 0 ≤ first ∧ first ≤ 999999 ∧ ownerOk (bt own) = true from ⟨by omega, by omega, ho⟩)
  by_cases hs1 : sumC t Gd.wt l = 0
  rotate_left
  · rw [if_neg hs1] at HPR
    have tm : (sumC t Gd.wt l != 0) = true := by simp [hs1]
    have HM := Lib.hid hs1
    generalize sumC t Gd.wt l = m at *
    clear hst hs hf hl hok hm ho hs1 hneg hbig HW2
    go_enter Tryz.func13, Tryz.ntmps13
    go_wp2_with (first | ((with_reducible refine HOW.out.mono ?_); rintro e w1 ⟨rfl, hb1⟩; have HB1 := Lib.hid hb1; clear hb1) | ((with_reducible refine (HW1.out _ HB1.out).mono ?_); rintro e w2 ⟨rfl, hb2⟩; have HB2 := Lib.hid (HB1.out.trans (hb2.mono HB1.out.size)); clear hb2) | fail)
    go_ret2
    exact ⟨HB2.out, .inl ⟨by rw [HPR.out]; exact HM.out, by rw [HPR.out]; rfl⟩⟩
  rw [if_pos hs1] at HPR
  have hin := (sumC_ok hs1).1
  rw [hs1] at HW1
  by_cases hs2 : sumC t Gd.vol l = 0
  rotate_left
  · rw [if_neg hs2] at HPR
    have tm : (sumC t Gd.vol l != 0) = true := by simp [hs2]
    have HM := Lib.hid hs2
    generalize sumC t Gd.vol l = m at *
    clear hst hs hf hl hok hm ho hs1 hs2 hneg hbig hin
    go_enter Tryz.func13, Tryz.ntmps13
    go_wp2_with (first | ((with_reducible refine HOW.out.mono ?_); rintro e w1 ⟨rfl, hb1⟩; have HB1 := Lib.hid hb1; clear hb1) | ((with_reducible refine (HW1.out _ HB1.out).mono ?_); rintro e w2 ⟨rfl, hb2⟩; have HB2 := Lib.hid (HB1.out.trans (hb2.mono HB1.out.size)); clear hb2) | ((with_reducible refine (HW2.out _ HB2.out).mono ?_); rintro e w3 ⟨rfl, hb3⟩; have HB3 := Lib.hid (HB2.out.trans (hb3.mono HB2.out.size)); have HB3A := Lib.hid (HB3.out.trans ((one_below w3 (.cells #[] 45)).mono HB3.out.size)); clear hb3) | fail)
    go_ret2
    exact ⟨HB3.out, .inl ⟨by rw [HPR.out]; exact HM.out, by rw [HPR.out]; rfl⟩⟩
  rw [if_pos hs2] at HPR
  rw [hs2] at HW2
  have HOR := Lib.hid (fun W (hW : Below w.heap.size w W) => refOrder_any t l vt v W (hst.below hW (Nat.le_refl _)) (hs.below hW (Nat.le_refl _)) (by omega) hin)
  have HEL := Lib.hid (ordL_fit hf hin hl)
  have HST := Lib.hid (fun W (hW : Below w.heap.size w W) => hst.below hW (Nat.le_refl _))
  have HOK := Lib.hid hok
  generalize ordL t l = E at *
  obtain ⟨i0, hi, hz, hsz, hby⟩ := info_parts infoBx
  have HI := Lib.hid (And.intro hi (And.intro hz (And.intro hsz hby)))
  clear hst hs hf hl hok hm ho hs1 hs2 hneg hbig hin hi hz hsz hby
  go_enter Tryz.func13, Tryz.ntmps13
  go_wp2_with (first | ((with_reducible refine HOW.out.mono ?_); rintro e w1 ⟨rfl, hb1⟩; have HB1 := Lib.hid hb1; clear hb1) | ((with_reducible refine (HW1.out _ HB1.out).mono ?_); rintro e w2 ⟨rfl, hb2⟩; have HB2 := Lib.hid (HB1.out.trans (hb2.mono HB1.out.size)); clear hb2) | ((with_reducible refine (HW2.out _ HB2.out).mono ?_); rintro e w3 ⟨rfl, hb3⟩; have HB3 := Lib.hid (HB2.out.trans (hb3.mono HB2.out.size)); have HB3A := Lib.hid (HB3.out.trans ((one_below w3 (.cells #[] 45)).mono HB3.out.size)); clear hb3) | ((with_reducible refine (HOR.out _ HB3A.out).mono ?_); rintro e w4 ⟨v4, rfl, ho4, hb4⟩; have HO4 := Lib.hid (ownsRow_base ho4 (Nat.zero_le _)); have HX4 := Lib.hid (And.intro ho4 hb4); clear ho4 hb4) | fail)
  clear t1 t2
  obtain ⟨B, hBe⟩ : ∃ B, B = w3.heap.size := ⟨_, rfl⟩
  have HBe := Lib.hid hBe
  rw [← hBe]
  have HWB : Hid (w.heap.size ≤ B) := Lib.hid (by rw [hBe]; exact HB3.out.size)
  have HVW : Hid (∀ V, Below B w3 V → Below w.heap.size w V) := Lib.hid (fun V hV => HB3.out.trans (hV.mono HWB.out))
  have HB34 : Hid (Below B w3 w4) := Lib.hid (by rw [hBe]; exact (one_below w3 _).trans (HX4.out.2.mono (one_below w3 (.cells #[] 45)).size))
  have HP0 : Hid (BsAt w4 (.slice (some ⟨B, 0, none⟩) 0 0) [] B) := Lib.hid ⟨by rw [hBe]; exact ownsRow_below (own_empty (Nat.le_refl _)) HX4.out.2, by simp, List.Pairwise.nil⟩
  have hE20 := HEL.out.1
  obtain ⟨a4, c4, rfl⟩ := Ord.row_slice HO4.out
  clear hBe HX4 HB3A HOW HW1 HW2 HOR HB1 HB2
  go_loopw [14, 16, 17, 18, 19, 20, 21] (fun v2 i _ _ _ _ _ wr => ∃ (k : Nat) (R : List Bv), k ≤ E.length ∧ i = .int .i64 k ∧ Pk1 t E w3 wr v2 B k R ∧ BsOk k (R.map Bv.b) ∧ wr.ownsRow 0 38 2 (.slice a4 E.length c4) E.length (ltCells E)) (fun _ i _ _ _ _ _ _ => E.length - (intOf i).toNat)
  case atStart => exact ⟨0, [], Nat.zero_le _, rfl, ⟨HP0.out, by simp, rfl, (fun b hb => by cases hb), HB34.out⟩, (fun b hb => by cases hb), HO4.out⟩
  case round =>
    obtain ⟨ko, R, hk, rfl, hin, hbo, hke⟩ := hrel
    obtain ⟨av, cv, rfl⟩ := Ord.row_slice hin.at'.own
    by_cases hlt : ko < E.length
    rotate_left
    · obtain ⟨bs, hbs⟩ : ∃ bs, bs = R.map Bv.b := ⟨_, rfl⟩
      have hlen := hin.len
      have hbl : bs.length = R.length := by rw [hbs, List.length_map]
      have hdone : packB t E [] = (0, bs) := by
        have h1 := hin.done
        rw [List.drop_of_length_le (by omega), ← hbs] at h1
        exact h1
      have HP0 : Hid (Pk2 own first.toNat bs w3 wr (.slice av R.length cv) B 0 R) := Lib.hid ⟨hin.at', hbl.symm, by rw [← hbs]; simp [markAll], hin.below⟩
      have HBB := Lib.hid hbl
      have HPQ : Hid (packR t first own l = if bs ≠ [] ∧ 999999 < first + bs.length - 1 then (3, []) else (0, markAll own first.toNat bs)) := Lib.hid (by rw [HPR.out, hdone, if_pos rfl])
      have tkn : ¬ ((ko : Nat) : Int) < (E.length : Int) := by omega
      clear hin hdone hbs hbl hlt hbo hke
      go_wp2_with fail
      go_loopw [22] (fun i wr => ∃ (k : Nat) (Q : List Bv), k ≤ R.length ∧ i = .int .i64 k ∧ Q.length = R.length ∧ Pk2 own first.toNat bs w3 wr (.slice av R.length cv) B k Q ∧ (k = 0 ∨ first + k ≤ 1000000)) (fun i _ => R.length - (intOf i).toNat)
      case atStart => exact ⟨0, R, Nat.zero_le _, rfl, rfl, HP0.out, .inl rfl⟩
      case round =>
        obtain ⟨k, Q, hk, rfl, hql, hin, hfk⟩ := hrel
        have HBL := Lib.hid hin.below
        by_cases hlt : k < R.length
        · have hkq : k < Q.length := by omega
          obtain ⟨bb, cap, cur, hv, hcur, h3, h4, e0, e1, e2⟩ := hin.at'.at hkq
          rw [hql] at hv
          obtain ⟨rfl, rfl⟩ : av = some ⟨bb, 0, none⟩ ∧ cv = cap := by
            simp only [Value.slice.injEq, true_and] at hv
            exact hv
          have hfi := HFI.out
          obtain ⟨m, hm⟩ : ∃ m : Nat, first.toNat + k = m := ⟨_, rfl⟩
          have hfm : first + (k : Int) = (m : Int) := by omega
          have HST := Lib.hid (fun W (hW : Below wr.heap.size wr W) => pk2_step (show Pk2 own first.toNat bs w3 wr (.slice (some ⟨bb, 0, none⟩) Q.length cv) B k Q by rw [hql]; exact hin) hkq hcur hW)
          have HX := Lib.hid hcur
          obtain ⟨om, hom⟩ : ∃ m : ByteArray, cur[k * 3]? = some (.string m) := ⟨_, e0⟩
          have HE0 := Lib.hid hom
          clear hom
          have tk : ((k : Nat) : Int) < (R.length : Int) := by omega
          have HQL := Lib.hid hql
          by_cases h9 : first + (k : Int) ≤ 999999
          · have HM2 : Hid (Calls Tryz.prog 39 #[.string own, .int .i64 (first + k)] wr (Ret wr (.string (txt (markB (bt own) (first.toNat + k)))))) := Lib.hid (by rw [hfm, hm]; exact refMake_any own m (by omega) hfi.2.2 wr)
            have w1 : wrap64 (first + (k : Int)) = first + k := IntWalk.wrap64_in _ (by omega)
            have t9 : decide (999999 < first + (k : Int)) = false := decide_eq_false (by omega)
            have H9 := Lib.hid h9
            generalize txt (markB (bt own) (first.toNat + k)) = mm at *
            clear hin hcur h3 h4 e0 e1 e2 hfm hm h9 hkq hql
            go_wp2_with (first
              | ((with_reducible refine HM2.out.mono ?_); rintro e w6 ⟨rfl, hb6⟩; have HB6 := Lib.hid hb6; have hx := blk hb6 (lt_blk HX.out) HX.out; have f0 := free_blk hx (k * 3); have y0 := (cell_blk hx (k * 3)).trans HE0.out; clear hx hb6)
              | fail)
            go_roundw
            case rel =>
              obtain ⟨Q', h1, h2⟩ := HST.out _ HB6.out
              have := HQL.out
              exact ⟨k + 1, Q', by omega, by go_num, by omega, by rw [← HQL.out]; exact h2, .inr (by have := H9.out; omega)⟩
            case measure => (simp [intOf]) <;> omega
          · have w1 : wrap64 (first + (k : Int)) = first + k := IntWalk.wrap64_in _ (by omega)
            have t9 : decide (999999 < first + (k : Int)) = true := decide_eq_true (by omega)
            have HQ : Hid (packR t first own l = (3, [])) := Lib.hid (by
              rw [HPQ.out, if_pos]
              have := HBB.out
              refine ⟨fun e => ?_, by omega⟩
              rw [e] at this
              simp at this
              omega)
            clear hin hcur h3 h4 e0 e1 e2 hfm hm h9 hkq hql
            go_wp2_with fail
            go_ret2
            exact ⟨HVW.out _ HBL.out, .inl ⟨by rw [HQ.out]; decide, by rw [HQ.out]; rfl⟩⟩
        · have tkn : ¬ ((k : Nat) : Int) < (R.length : Int) := by omega
          have HQ : Hid (packR t first own l = (0, Q.map Bv.b)) := Lib.hid (by
            have h1 := hin.done
            have h2 := HBB.out
            rw [HPQ.out, if_neg (fun h => by
              have h3 : bs.length ≠ 0 := fun e => h.1 (List.length_eq_zero_iff.1 e)
              omega), h1, List.take_of_length_le (by omega), List.drop_of_length_le (by omega), List.append_nil])
          have HAT : Hid (BsAt wr (.slice av R.length cv) Q w.heap.size) := Lib.hid (hin.at'.base HWB.out)
          clear hin hlt
          go_wp2_with fail
          go_ret2
          exact ⟨HVW.out _ HBL.out, .inr ⟨by rw [HQ.out], _, Q, rfl, HAT.out, by rw [HQ.out]⟩⟩
    -- one lot
    obtain ⟨b4, off4, ha4, -, hb, hc⟩ := (own_lots hke rfl).at (i := ko) (by simpa using hlt)
    subst ha4
    have d0 : wr.cell? ⟨b4, off4 + ko * 2, none⟩ = some (.string E[ko].good) := hc ko E[ko].row (by simp [hlt]) 0 _ rfl
    have d1 : wr.cell? ⟨b4, off4 + ko * 2 + 1, none⟩ = some (.int .i64 E[ko].cnt) := hc ko E[ko].row (by simp [hlt]) 1 _ rfl
    have hx := HEL.out.2 _ (List.getElem_mem hlt)
    have hdone := hin.done
    rw [List.drop_eq_getElem_cons hlt, packB] at hdone
    generalize E[ko] = x at *
    obtain ⟨xn, xc⟩ := x
    simp only at d0 d1 hx hdone
    have hkl : ko ≤ 20 := by omega
    have hBw : B ≤ wr.heap.size := by
      have := hin.below.size
      have := HB34.out.size
      rw [HBe.out]
      exact hin.below.size
    obtain ⟨bs, hbs⟩ : ∃ bs, bs = R.map Bv.b := ⟨_, rfl⟩
    rw [← hbs] at hbo hdone
    have hmax := hin.max
    have hrl := hin.len
    rw [← hbs] at hmax
    have hbl : bs.length = R.length := by rw [hbs, List.length_map]
    obtain ⟨w5, hw5⟩ : ∃ w5, w5 = wr.alloc (.cells #[.string xn, .int .i64 xc] 38) := ⟨_, rfl⟩
    obtain ⟨b17, hb17⟩ : ∃ b, b = wr.heap.size := ⟨_, rfl⟩
    have HI0 : Hid (In1 t xn xc bs w3 w5 (.slice av R.length cv) b17 B 0 R xc) := Lib.hid ⟨hin.at'.below (by rw [hw5]; exact one_below wr _), hbl.symm, by rw [hw5, hb17]; exact heap_alloc_new wr _, hx.1, Int.le_refl _, by simp, by simp [hbs], fun x hx e => by
      have := (hin.at'.lots x hx).lt b17 e
      omega, hin.below.trans (by rw [hw5]; exact (one_below wr _).mono hBw)⟩
    have HK0 : Hid (w5.ownsRow 0 38 2 (.slice (some ⟨b4, off4, none⟩) E.length c4) E.length (ltCells E)) := Lib.hid (by rw [hw5]; exact ownsRow_below hke (one_below wr _))
    have HE5 : Hid (∀ k, (Value.slice (some ⟨b4, off4, none⟩) E.length c4).ownBlock = some k → k ≠ b17) := Lib.hid (fun k hk => by have := (hke.lt k hk).2; omega)
    have HB5 : Hid (B ≤ b17) := Lib.hid (by omega)
    have HBO := Lib.hid hbo
    have HXF := Lib.hid hx
    have HBL := Lib.hid hbl
    have HAL := Lib.hid (addB_len (t := t) (x := ⟨xn, xc⟩) (bs := bs) (by omega))
    have HAM := Lib.hid (addB_max (t := t) (x := ⟨xn, xc⟩) hmax)
    have HAO := Lib.hid (addB_ok (t := t) (x := ⟨xn, xc⟩) hx.2.2 hx.2.1 hbo)
    have HD := Lib.hid hdone
    have HWI := Lib.hid (fun (L : List Lt) (v : Value) (n : Int) W (hs : Sl W 2 v (L.map Lt.row)) (hl : L.length ≤ 4000) => with_any L xn n v W hs hl)
    have HGI := Lib.hid (fun W (k n : Int) (v2 : Value) (hn : n ≤ 1099511627776) (hW : Below B w3 W) (h2 : Sl W 2 v2 ([(⟨xn, n⟩ : Lt)].map Lt.row)) => refGo_any t k [⟨xn, n⟩] vt v2 W (HST.out W (HVW.out W hW)) h2 (fun y hy => by rw [List.mem_singleton.1 hy]; exact ⟨hx.2.2.good⟩) (by simp) (fun y hy => by rw [List.mem_singleton.1 hy]; exact hn) HOK.out)
    have HMI := Lib.hid (fun W (k c : Int) (L : List Lt) (v2 : Value) (h0 : 0 ≤ c) (hc : c ≤ xc) (hW : Below B w3 W) (h2 : Sl W 2 v2 (L.map Lt.row)) (hL : L.length ≤ 20 ∧ ∀ x ∈ L, x.fit ∧ x.cnt ≤ 1099511627776) => mostI_any t k L xn c vt v2 W (HST.out W (HVW.out W hW)) h2 (fun y hy => (hL.2 y hy).1) ⟨hx.2.2.good⟩ (by omega) (fun y hy => (hL.2 y hy).2) h0 (by omega) HOK.out)
    have tk : ((ko : Nat) : Int) < (E.length : Int) := by omega
    have HKO := Lib.hid hlt
    clear hin hb hc hx hdone hBw hbs hbl hbo hmax hke HP0 hk hlt
    go_wp2_with fail
    rw [← hw5, ← hb17]
    clear hw5 hb17 d0 d1 tk
    go_loopw [18, 19] (fun i _ wr => ∃ (k : Nat) (Q : List Bv) (c' : Int), k ≤ R.length ∧ i = .int .i64 k ∧ Q.length = R.length ∧ In1 t xn xc bs w3 wr (.slice av R.length cv) b17 B k Q c' ∧ wr.ownsRow 0 38 2 (.slice (some ⟨b4, off4, none⟩) E.length c4) E.length (ltCells E)) (fun i _ _ => R.length - (intOf i).toNat)
    case atStart => exact ⟨0, R, xc, Nat.zero_le _, rfl, rfl, HI0.out, HK0.out⟩
    case round =>
      obtain ⟨k, Q, c', hk, rfl, hql, hin, hke⟩ := hrel
      by_cases hlt : k < R.length
      rotate_left
      · have HI2 := Lib.hid (in2_start hin (by omega) (by omega))
        have HKE := Lib.hid hke
        obtain ⟨res, hres⟩ : ∃ res, res = addB t ⟨xn, xc⟩ bs := ⟨_, rfl⟩
        rw [← hres] at HI2 HAL HAM HAO HD
        have tkn : ¬ ((k : Nat) : Int) < (R.length : Int) := by omega
        have HXC := Lib.hid (And.intro HXF.out.1 HXF.out.2.1)
        have HW1N : Hid (∀ W (n : Int), Calls Tryz.prog 37 #[.slice none 0 0, .string xn, .int .i64 n] W (RetRow W 38 2 1 (ltCells [⟨xn, n⟩]))) := Lib.hid (fun W n => HWI.out [] _ n W (sl_none W) (by simp))
        clear hin hke hres hlt hk HI0 HK0 HWI hql
        go_wp2_with fail
        go_loopw [14, 20, 21] (fun v2 _ _ wr => ∃ (f : Nat) (Q : List Bv) (c' : Int), In2 t xn xc res w3 wr v2 b17 B f Q c' ∧ wr.ownsRow 0 38 2 (.slice (some ⟨b4, off4, none⟩) E.length c4) E.length (ltCells E)) (fun v2 _ _ _ => match v2 with | .slice _ n _ => 65 - n | _ => 0)
        case atStart => exact ⟨_, Q, c', HI2.out, HKE.out⟩
        case round =>
          obtain ⟨f, Q, c', hin, hke⟩ := hrel
          obtain ⟨a2, c2, rfl⟩ := Ord.row_slice hin.at'.own
          have x1 := cell_blk hin.box 1
          have hlen2 := hin.len
          have hfu := hin.fuel
          have hdone := hin.done
          have HBE := Lib.hid hin.below
          have HKE := Lib.hid hke
          obtain ⟨f', rfl⟩ : ∃ f', f = f' + 1 := ⟨f - 1, by omega⟩
          rw [newB] at hdone
          by_cases hcc : c' ≤ 0
          · have t1 : decide (0 < c') = false := decide_eq_false (by omega)
            rw [if_pos hcc] at hdone
            have HNX : Hid (Pk1 t E w3 wr (.slice a2 Q.length c2) B (ko + 1) Q ∧ BsOk (ko + 1) (Q.map Bv.b)) := Lib.hid (by
              have h1 := HAL.out
              have h2 := HAM.out
              have h3 := HAO.out
              have h4 := HD.out
              rw [hdone] at h1 h2 h3 h4
              exact ⟨⟨hin.at', by simpa using h1, by rw [h4, if_pos rfl], h2, hin.below⟩, h3⟩)
            clear hin hdone hcc hfu hke
            go_wp2_with fail
            go_roundw
            case rel => exact ⟨ko + 1, Q, by have := HKO.out; omega, by go_num, HNX.out.1, HNX.out.2, HKE.out⟩
            case measure => have := HKO.out; (simp [intOf]) <;> omega
          rw [if_neg hcc] at hdone
          have t1 : decide (0 < c') = true := decide_eq_true (by omega)
          have HCC := Lib.hid hcc
          have HIN := Lib.hid hin
          have HB17 : Hid (∀ W, Below wr.heap.size wr W → W.cell? ⟨b17, 0, none⟩ = some (.string xn) ∧ W.cell? ⟨b17, 1, none⟩ = some (.int .i64 c') ∧ Below B w3 W) := Lib.hid (fun W hW => by
            have h1 := lt_blk hin.box
            have h2 := blk hW h1 hin.box
            have h3 := HB5.out
            exact ⟨cell_blk h2 0, cell_blk h2 1, hin.below.trans (hW.mono (by omega))⟩)
          have hlo := hin.lo
          have hhi := hin.hi
          have HCB : Hid (0 ≤ c' ∧ c' ≤ xc ∧ c' ≤ 1099511627776) := Lib.hid (by have := HXC.out; omega)
          have hfk : freshK t xn c' = if goP t 0 [⟨xn, c'⟩] = true then some 0 else if goP t 1 [⟨xn, 1⟩] = true then some 1 else if goP t 0 [⟨xn, 1⟩] = true then some 0 else none := rfl
          have HG0 := Lib.hid (fun W (v2 : Value) (hW : Below wr.heap.size wr W) h2 => HGI.out W 0 1 v2 (by decide) (HB17.out W hW).2.2 h2)
          have HG1 := Lib.hid (fun W (v2 : Value) (hW : Below wr.heap.size wr W) h2 => HGI.out W 1 1 v2 (by decide) (HB17.out W hW).2.2 h2)
          have HG2 := Lib.hid (fun W (v2 : Value) (hW : Below wr.heap.size wr W) h2 => HGI.out W 0 c' v2 HCB.out.2.2 (HB17.out W hW).2.2 h2)
          generalize goP t 0 [⟨xn, 1⟩] = r0 at *
          generalize goP t 1 [⟨xn, 1⟩] = r1 at *
          generalize goP t 0 [⟨xn, c'⟩] = r2 at *
          have HFK := Lib.hid hfk
          have HDN := Lib.hid hdone
          have y0 := (HB17.out wr (Below.refl _ _)).1
          clear hin hdone hcc hfu hke hfk hlo hhi
          go_upto_if 113 with (first
            | ((with_reducible refine (HW1N.out _ 1).mono ?_); rintro e wA ⟨vA, rfl, hoA, hbA⟩; have HSA := Lib.hid (own_lots (l := [(⟨xn, 1⟩ : Lt)]) hoA rfl); have HBA := Lib.hid hbA; clear hoA hbA)
            | ((with_reducible refine (HG0.out _ _ HBA.out HSA.out).mono ?_); rintro e wB ⟨rfl, hbB⟩; have HBB := Lib.hid (HBA.out.trans (hbB.mono HBA.out.size)); have q0 := (HB17.out _ HBB.out).1; clear hbB)
            | fail)
          clear y0
          go_cut [20] from 113 to 113 (fun s wx => ∃ k0 : Int, s = .int .i64 k0 ∧ (r0 = true → k0 = 0) ∧ (r0 = false → k0 = -1) ∧ wB = wx)
          case first =>
            cases r0
            all_goals
              go_wp2_with fail
              go_meet
              exact ⟨_, rfl, by simp, by simp, rfl⟩
          obtain ⟨k0, rfl, hk00, hk01, rfl⟩ := hcut
          have HK0 := Lib.hid (And.intro hk00 hk01)
          clear hk00 hk01
          go_upto_if 118 with (first
            | ((with_reducible refine (HW1N.out _ 1).mono ?_); rintro e wC ⟨vC, rfl, hoC, hbC⟩; have HSC := Lib.hid (own_lots (l := [(⟨xn, 1⟩ : Lt)]) hoC rfl); have HBC := Lib.hid (HBB.out.trans (hbC.mono HBB.out.size)); clear hoC hbC)
            | ((with_reducible refine (HG1.out _ _ HBC.out HSC.out).mono ?_); rintro e wD ⟨rfl, hbD⟩; have HBD := Lib.hid (HBC.out.trans (hbD.mono HBC.out.size)); clear q0; have q0 := (HB17.out _ HBD.out).1; have q1 := (HB17.out _ HBD.out).2.1; clear hbD)
            | fail)
          go_cut [20] from 118 to 118 (fun s wx => ∃ k1 : Int, s = .int .i64 k1 ∧ (r1 = true → k1 = 1) ∧ (r1 = false → k1 = k0) ∧ wD = wx)
          case first =>
            cases r1
            all_goals
              go_wp2_with fail
              go_meet
              exact ⟨_, rfl, by simp, by simp, rfl⟩
          obtain ⟨k1, rfl, hk10, hk11, rfl⟩ := hcut
          have HK1 := Lib.hid (And.intro hk10 hk11)
          clear hk10 hk11
          go_upto_if 125 with (first
            | ((with_reducible refine (HW1N.out _ c').mono ?_); rintro e wE ⟨vE, rfl, hoE, hbE⟩; have HSE := Lib.hid (own_lots (l := [(⟨xn, c'⟩ : Lt)]) hoE rfl); have HBEE := Lib.hid (HBD.out.trans (hbE.mono HBD.out.size)); clear hoE hbE)
            | ((with_reducible refine (HG2.out _ _ HBEE.out HSE.out).mono ?_); rintro e wF ⟨rfl, hbF⟩; have HBF := Lib.hid (HBEE.out.trans (hbF.mono HBEE.out.size)); clear q0 q1; have q0 := (HB17.out _ HBF.out).1; have q1 := (HB17.out _ HBF.out).2.1; clear hbF)
            | fail)
          go_cut [20] from 125 to 125 (fun s wx => ∃ k2 : Int, s = .int .i64 k2 ∧ (r2 = true → k2 = 0) ∧ (r2 = false → k2 = k1) ∧ wF = wx)
          case first =>
            cases r2
            all_goals
              go_wp2_with fail
              go_meet
              exact ⟨_, rfl, by simp, by simp, rfl⟩
          obtain ⟨k2, rfl, hk20, hk21, rfl⟩ := hcut
          have hkk : (freshK t xn c' = none ∧ k2 = -1) ∨ ∃ kd, freshK t xn c' = some kd ∧ k2 = kd ∧ 0 ≤ kd := by
            obtain ⟨a0, a1⟩ := HK0.out
            obtain ⟨b0, b1⟩ := HK1.out
            rw [HFK.out]
            cases r2
            · cases r1
              · cases r0
                · exact .inl ⟨rfl, by rw [hk21 rfl, b1 rfl, a1 rfl]⟩
                · exact .inr ⟨0, rfl, by rw [hk21 rfl, b1 rfl, a0 rfl], by decide⟩
              · exact .inr ⟨1, rfl, by rw [hk21 rfl, b0 rfl], by decide⟩
            · exact .inr ⟨0, rfl, hk20 rfl, by decide⟩
          clear hk20 hk21 HK0 HK1 HG0 HG1 HG2 HFK HSA HSC HSE
          rcases hkk with ⟨hfn, hk2⟩ | ⟨kd, hfs, rfl, hkd⟩
          · have t2 : decide (k2 < 0) = true := decide_eq_true (by omega)
            have HQ : Hid (packR t first own l = (12, [])) := Lib.hid (by
              have h1 := HDN.out
              rw [hfn] at h1
              rw [HPR.out, HD.out, h1]
              rfl)
            clear hfn hk2
            go_wp2_with fail
            go_ret2
            exact ⟨HVW.out _ (HB17.out _ HBF.out).2.2, .inl ⟨by rw [HQ.out]; decide, by rw [HQ.out]; rfl⟩⟩
          have t2 : decide (k2 < 0) = false := decide_eq_false (by omega)
          have hdone := HDN.out
          rw [hfs] at hdone
          simp only at hdone
          rw [List.length_map] at hdone
          by_cases h64 : 64 ≤ Q.length
          · have t64 : ((Q.length : Int) == 64) = true := by simp; omega
            have t64' : (Q.length == 64) = true := by simp; omega
            rw [if_pos h64] at hdone
            have HQ : Hid (packR t first own l = (7, [])) := Lib.hid (by rw [HPR.out, HD.out, hdone]; rfl)
            clear hfs hdone h64 hkd
            go_wp2_with fail
            go_ret2
            exact ⟨HVW.out _ (HB17.out _ HBF.out).2.2, .inl ⟨by rw [HQ.out]; decide, by rw [HQ.out]; rfl⟩⟩
          have t64 : ((Q.length : Int) == 64) = false := by simp; omega
          have t64' : (Q.length == 64) = false := by simp; omega
          have hcc := HCC.out
          have hm1 := (fresh_may HOK.out (c := c') (by omega) hfs).2
          have hn1 := fillN_some (c := c') (by omega) hm1
          have hnc := fillN_le t k2 [] xn c'
          have HMS := Lib.hid (fun W (hW : Below wr.heap.size wr W) => HMI.out W k2 c' [] (.slice none 0 0) HCB.out.1 HCB.out.2.1 (HB17.out W hW).2.2 (sl_none W) ⟨by simp, by simp⟩)
          obtain ⟨n, hnn⟩ : ∃ n, n = fillN t k2 [] xn c' := ⟨_, rfl⟩
          rw [← hnn] at hn1 hnc HMS
          have HN := Lib.hid hnn
          have HFS := Lib.hid hfs
          have HQ64 := Lib.hid h64
          have hcb := HCB.out
          have e9 : wrap64 (c' - (n : Int)) = c' - n := IntWalk.wrap64_in _ (by omega)
          clear hdone hfs h64 hm1 hn1 hnc hnn hcc hcb hkd
          go_wp2_with (first
            | ((with_reducible refine (HMS.out _ HBF.out).mono ?_); rintro e wG ⟨rfl, hbG⟩; have HBG := Lib.hid (HBF.out.trans (hbG.mono HBF.out.size)); clear q0 q1; have q0 := (HB17.out _ HBG.out).1; have q1 := (HB17.out _ HBG.out).2.1; clear hbG)
            | ((with_reducible refine (HW1N.out _ (n : Int)).mono ?_); rintro e wH ⟨vH, rfl, hoH, hbH⟩; have HBH := Lib.hid (HBG.out.trans (hbH.mono HBG.out.size)); clear q0 q1; have HRH := Lib.hid (ownsRow_base hoH HBG.out.size); have HQA := Lib.hid (HIN.out.at'.below HBH.out).own; have HLA := Lib.hid (show Q.length + 1 ≤ maxLen ∧ (Q.length + 1) * 48 ≤ 140737488355328 ∧ B ≤ wH.heap.size from by have h1 := HQ64.out; have h2 := lt_blk HIN.out.box; have h3 := HB5.out; have h4 := HBH.out.size; simp only [maxLen]; omega); obtain ⟨aH, cH, rfl⟩ := Ord.row_slice hoH; clear hoH hbH)
            | (((with_reducible refine Any.wpl_push ?_ ?_ ?_ Tryz.underlying30 HI.out.1 HI.out.2.1 HI.out.2.2.1 HI.out.2.2.2 ?_ (by decide) ?_ ((by intro x hx; simp at hx; rcases hx with rfl | rfl | rfl <;> simp [Value.oneCell'])) (HQA.out) HLA.out.1 HLA.out.2.1 HLA.out.2.2 ?_); rfl; rfl; rfl; rfl; rfl; intro v9 w9 hown9 hgrow9 hwho9); have HO9 := Lib.hid hown9; have HG9 := Lib.hid hgrow9; have h17 := in2_box HIN.out HBH.out hgrow9; have q1 := cell_blk h17 1; have z1 := free_blk h17 1; clear hown9 hgrow9 hwho9 h17)
            | fail)
          go_roundw
          case rel =>
            obtain ⟨f', h1⟩ := in2_push HIN.out (by have := HCC.out; omega) HFS.out HQ64.out HN.out HBH.out HRH.out (Nat.le_refl _) HB5.out HO9.out HG9.out
            exact ⟨f', _, _, h1, row_set (in2_row HIN.out HBH.out HG9.out HKE.out) HE5.out⟩
          case measure =>
            obtain ⟨a9, c9, rfl⟩ := Ord.row_slice HO9.out
            have := HQ64.out
            simp only
            omega
      have hkq : k < Q.length := by omega
      obtain ⟨bb, cap, cur, hv, hcur, h3, h4, e0, e1, e2⟩ := hin.at'.at hkq
      rw [hql] at hv
      obtain ⟨rfl, rfl⟩ : av = some ⟨bb, 0, none⟩ ∧ cv = cap := by
        simp only [Value.slice.injEq, true_and] at hv
        exact hv
      have hlots := hin.at'.lots _ (List.getElem_mem hkq)
      have hkb : k < bs.length := by rw [HBL.out]; exact hlt
      have hbk : Q[k].b = bs[k] := by
        have h1 := hin.rest
        rw [List.drop_eq_getElem_cons hkq, List.drop_eq_getElem_cons hkb, List.map_cons] at h1
        exact (List.cons.inj h1).1
      have hmk : Q[k].b.lots.length ≤ ko ∧ ∀ x ∈ Q[k].b.lots, x.fit ∧ x.cnt ≤ 1099511627776 := by rw [hbk]; exact HBO.out _ (List.getElem_mem _)
      have hhi := hin.hi
      have hlo := hin.lo
      have hbox := hin.box
      obtain ⟨n, hnn⟩ : ∃ n, n = fillN t Q[k].b.kind Q[k].b.lots xn c' := ⟨_, rfl⟩
      have hnc := fillN_le t Q[k].b.kind Q[k].b.lots xn c'
      rw [← hnn] at hnc
      have hblw : wr.heap.size ≥ B := by have := lt_blk hbox; have := HB5.out; omega
      have HST1 := Lib.hid (fun V (hV : FilR wr.drew bb (k * 3) cur Q[k].v Q[k].b.lots xn n V) => in1_step (show In1 t xn xc bs w3 wr (.slice (some ⟨bb, 0, none⟩) Q.length cv) b17 B k Q c' by rw [hql]; exact hin) hkq hcur hnn hV HB5.out)
      have HSK := Lib.hid (fun (h0 : n = 0) V (hV : Below wr.heap.size wr V) => in1_skip hin hkq (by rw [← hnn]; exact h0) hV HB5.out)
      have HFR := Lib.hid (fun (hn : 0 < n) w7 (B7 : Nat) (v' : Value) (h7 : Below wr.heap.size wr w7) (hB : wr.heap.size ≤ B7) (hr : w7.ownsRow B7 38 2 v' (Q[k].b.lots ++ [(⟨xn, (n : Int)⟩ : Lt)]).length (ltCells (Q[k].b.lots ++ [(⟨xn, (n : Int)⟩ : Lt)]))) => filR_store (bb := bb) (off := k * 3) (lv := Q[k].v) (Lq := Q[k].b.lots) (g := xn) (n := n) (B7 := B7) (v' := v') hn hcur h7 hB hr)
      have HBW := Lib.hid (fun W (hW : Below wr.heap.size wr W) => hin.below.trans (hW.mono hblw))
      have hc17 : ∀ W, Below wr.heap.size wr W → W.heap[b17]? = some (.cells #[.string xn, .int .i64 c'] 38 (0, 0)) ∧ W.heap[bb]? = some (.cells cur 45 (0, 0)) := fun W hW => ⟨blk hW (lt_blk hbox) hbox, blk hW (lt_blk hcur) hcur⟩
      have hrw : ∀ W, Below wr.heap.size wr W → Sl W 2 Q[k].v (Q[k].b.lots.map Lt.row) := fun W hW => (own_lots hlots rfl).below hW (Nat.le_refl _)
      have HMS0 := Lib.hid (fun W (hW : Below wr.heap.size wr W) => HMI.out W Q[k].b.kind c' Q[k].b.lots Q[k].v hlo hhi (HBW.out W hW) (hrw W hW) ⟨by omega, hmk.2⟩)
      have HWI0 := Lib.hid (fun W (hW : Below wr.heap.size wr W) => HWI.out Q[k].b.lots Q[k].v n W (hrw W hW) (by have := hmk.1; omega))
      have HBB : Hid (bb ≠ b17 ∧ ∀ k, (Value.slice (some ⟨b4, off4, none⟩) E.length c4).ownBlock = some k → k ≠ bb) := Lib.hid ⟨fun e => by
        subst e
        rw [hcur] at hbox
        simp only [Option.some.injEq, Obj.cells.injEq] at hbox
        exact absurd hbox.2.1 (by decide), fun k hk e => own_ne hin.at'.own hke (by decide) bb rfl (by rw [← e]; exact hk)⟩
      have HKE := Lib.hid hke
      have HFZ := Lib.hid (fun W (hW : Below wr.heap.size wr W) => (⟨free_blk (hc17 W hW).2 (k * 3 + 2), free_blk (hc17 W hW).1 1⟩ : W.frozen? ⟨bb, k * 3 + 2, none⟩ = false ∧ W.frozen? ⟨b17, 1, none⟩ = false))
      obtain ⟨al, cl, hxl⟩ : ∃ a c, Q[k].v = .slice a Q[k].b.lots.length c := Ord.row_slice hlots
      have hC : ∀ W, Below wr.heap.size wr W → W.cell? ⟨bb, k * 3, none⟩ = some (.string Q[k].b.mark) ∧ W.cell? ⟨bb, k * 3 + 1, none⟩ = some (.int .i64 Q[k].b.kind) ∧ W.cell? ⟨bb, k * 3 + 2, none⟩ = some Q[k].v ∧ W.cell? ⟨b17, 0, none⟩ = some (.string xn) ∧ W.cell? ⟨b17, 1, none⟩ = some (.int .i64 c') := fun W hW => by
        obtain ⟨h1, h2⟩ := hc17 W hW
        exact ⟨(cell_blk h2 _).trans e0, (cell_blk h2 _).trans e1, (cell_blk h2 _).trans e2, cell_blk h1 0, cell_blk h1 1⟩
      rw [← hnn] at HMS0
      rw [hxl] at hC HMS0 HWI0 HFR HST1
      obtain ⟨m, kd, Lq, hm, hkd, hLq⟩ : ∃ m kd Lq, m = Q[k].b.mark ∧ kd = Q[k].b.kind ∧ Lq = Q[k].b.lots := ⟨_, _, _, rfl, rfl, rfl⟩
      rw [← hm, ← hkd, ← hLq] at hC
      rw [← hkd, ← hLq] at HMS0
      rw [← hLq] at HWI0 HFR HST1
      obtain ⟨NL, hNL⟩ : ∃ N, N = (Lq ++ [(⟨xn, (n : Int)⟩ : Lt)]).length := ⟨_, rfl⟩
      rw [← hNL] at HWI0 HFR
      have HC := Lib.hid hC
      have H17 := Lib.hid (fun W hW => (hc17 W hW).1)
      have HQL := Lib.hid hql
      have HCN : Hid ((n : Int) ≤ c' ∧ c' ≤ 1099511627776) := Lib.hid (by have := HXF.out; omega)
      have tk : ((k : Nat) : Int) < (R.length : Int) := by omega
      clear hin hcur h3 h4 e0 e1 e2 hlots hbk hmk hhi hlo hnn hbox hkb hkq hc17 hrw hC hxl hm hkd hLq hke hql hv hnc hk hlt hblw hNL
      by_cases hn0 : n = 0
      · subst hn0
        have HMS := HMS0
        clear HMS0 HST1 HFR HWI0
        go_wp2_with fail
        refine Any.region_lit (fun
          | 0 => Any.val (vt)
          | 1 => Any.val (.slice (some ⟨bb, 0, none⟩) R.length cv)
          | 2 => Any.val (.int .i64 (k : Int))
          | 3 => Any.val (.pointer (some ⟨bb, k * 3, none⟩))
          | 4 => Any.val (.pointer (some ⟨bb, k * 3 + 1, none⟩))
          | 5 => Any.val (.int .i64 kd)
          | 6 => Any.val (.slice (some ⟨bb, 0, none⟩) R.length cv)
          | 7 => Any.val (.int .i64 (k : Int))
          | 8 => Any.val (.pointer (some ⟨bb, k * 3, none⟩))
          | 9 => Any.val (.pointer (some ⟨bb, k * 3 + 2, none⟩))
          | 10 => Any.val (.slice al Lq.length cl)
          | 11 => Any.val (.pointer (some ⟨b17, 0, none⟩))
          | 12 => Any.val (.string xn)
          | 13 => Any.val (.pointer (some ⟨b17, 1, none⟩))
          | 14 => Any.val (.int .i64 c')
          | 15 => Any.val (.int .i64 ((0 : Nat) : Int))
          | 16 => Any.val (.int .i64 ((0 : Nat) : Int))
          | _ => Any.idle) (by kernel_rfl) (by kernel_rfl) (by kernel_rfl) ?_ ?_ ?_
        · intro i _
          match i with
          | 0 => exact Any.lasts_val _
          | 1 => exact Any.lasts_val _
          | 2 => exact Any.lasts_val _
          | 3 => exact Any.lasts_val _
          | 4 => exact Any.lasts_val _
          | 5 => exact Any.lasts_val _
          | 6 => exact Any.lasts_val _
          | 7 => exact Any.lasts_val _
          | 8 => exact Any.lasts_val _
          | 9 => exact Any.lasts_val _
          | 10 => exact Any.lasts_val _
          | 11 => exact Any.lasts_val _
          | 12 => exact Any.lasts_val _
          | 13 => exact Any.lasts_val _
          | 14 => exact Any.lasts_val _
          | 15 => exact Any.lasts_val _
          | 16 => exact Any.lasts_val _
          | n + 17 => exact Any.lasts_idle
        · refine ⟨?_, ?_, ?_, ?_, ?_, ?_, ?_, ?_, ?_, ?_, ?_, ?_, ?_, ?_, ?_, ?_, ?_, trivial⟩
          · refine Any.owes_plain rfl fun ρ wo hs' hb hc' => ?_
            have h0 : ρ (.tmp 0) = vt := hs'.old' 0 (by kernel_rfl)
            exact Any.ok_move (Any.post_val hb rfl h0)
          · refine Any.owes_plain rfl fun ρ wo hs' hb hc' => ?_
            have h14 : ρ (.tmp 14) = .slice (some ⟨bb, 0, none⟩) R.length cv := hs'.old' 14 (by kernel_rfl)
            exact Any.ok_move (Any.post_val hb rfl h14)
          · refine Any.owes_plain rfl fun ρ wo hs' hb hc' => ?_
            have h18 : ρ (.tmp 18) = .int .i64 (k : Int) := hs'.old' 18 (by kernel_rfl)
            exact Any.ok_move (Any.post_val hb rfl h18)
          · refine Any.owes_plain rfl fun ρ wo hs' hb hc' => ?_
            have h71 : ρ (.tmp 71) = .slice (some ⟨bb, 0, none⟩) R.length cv := hs'.new' 71 1 (by kernel_rfl)
            have h72 : ρ (.tmp 72) = .int .i64 (k : Int) := hs'.new' 72 2 (by kernel_rfl)
            go_simp
            exact Any.post_val hb rfl rfl
          · refine Any.owes_plain rfl fun ρ wo hs' hb hc' => ?_
            have h73 : ρ (.tmp 73) = .pointer (some ⟨bb, k * 3, none⟩) := hs'.new' 73 3 (by kernel_rfl)
            go_simp
            exact Any.post_val hb rfl rfl
          · refine Any.owes_plain rfl fun ρ wo hs' hb hc' => ?_
            have h74 : ρ (.tmp 74) = .pointer (some ⟨bb, k * 3 + 1, none⟩) := hs'.new' 74 4 (by kernel_rfl)
            have c0 : wo.cell? ⟨bb, k * 3 + 1, none⟩ = some (.int .i64 kd) := (HC.out wo (below_undrew hb)).2.1
            go_simp
            exact Any.post_val hb rfl rfl
          · refine Any.owes_plain rfl fun ρ wo hs' hb hc' => ?_
            have h14 : ρ (.tmp 14) = .slice (some ⟨bb, 0, none⟩) R.length cv := hs'.old' 14 (by kernel_rfl)
            exact Any.ok_move (Any.post_val hb rfl h14)
          · refine Any.owes_plain rfl fun ρ wo hs' hb hc' => ?_
            have h18 : ρ (.tmp 18) = .int .i64 (k : Int) := hs'.old' 18 (by kernel_rfl)
            exact Any.ok_move (Any.post_val hb rfl h18)
          · refine Any.owes_plain rfl fun ρ wo hs' hb hc' => ?_
            have h76 : ρ (.tmp 76) = .slice (some ⟨bb, 0, none⟩) R.length cv := hs'.new' 76 6 (by kernel_rfl)
            have h77 : ρ (.tmp 77) = .int .i64 (k : Int) := hs'.new' 77 7 (by kernel_rfl)
            go_simp
            exact Any.post_val hb rfl rfl
          · refine Any.owes_plain rfl fun ρ wo hs' hb hc' => ?_
            have h78 : ρ (.tmp 78) = .pointer (some ⟨bb, k * 3, none⟩) := hs'.new' 78 8 (by kernel_rfl)
            go_simp
            exact Any.post_val hb rfl rfl
          · refine Any.owes_plain rfl fun ρ wo hs' hb hc' => ?_
            have h79 : ρ (.tmp 79) = .pointer (some ⟨bb, k * 3 + 2, none⟩) := hs'.new' 79 9 (by kernel_rfl)
            have c0 : wo.cell? ⟨bb, k * 3 + 2, none⟩ = some (.slice al Lq.length cl) := (HC.out wo (below_undrew hb)).2.2.1
            go_simp
            exact Any.post_val hb rfl rfl
          · refine Any.owes_plain rfl fun ρ wo hs' hb hc' => ?_
            have h17 : ρ (.tmp 17) = .pointer (some ⟨b17, 0, none⟩) := hs'.old' 17 (by kernel_rfl)
            go_simp
            exact Any.post_val hb rfl rfl
          · refine Any.owes_plain rfl fun ρ wo hs' hb hc' => ?_
            have h81 : ρ (.tmp 81) = .pointer (some ⟨b17, 0, none⟩) := hs'.new' 81 11 (by kernel_rfl)
            have c0 : wo.cell? ⟨b17, 0, none⟩ = some (.string xn) := (HC.out wo (below_undrew hb)).2.2.2.1
            go_simp
            exact Any.post_val hb rfl rfl
          · refine Any.owes_plain rfl fun ρ wo hs' hb hc' => ?_
            have h17 : ρ (.tmp 17) = .pointer (some ⟨b17, 0, none⟩) := hs'.old' 17 (by kernel_rfl)
            go_simp
            exact Any.post_val hb rfl rfl
          · refine Any.owes_plain rfl fun ρ wo hs' hb hc' => ?_
            have h83 : ρ (.tmp 83) = .pointer (some ⟨b17, 1, none⟩) := hs'.new' 83 13 (by kernel_rfl)
            have c0 : wo.cell? ⟨b17, 1, none⟩ = some (.int .i64 c') := (HC.out wo (below_undrew hb)).2.2.2.2
            go_simp
            exact Any.post_val hb rfl rfl
          · refine Any.owes_plain rfl fun ρ wo hs' hb hc' => ?_
            have h70 : ρ (.tmp 70) = vt := hs'.new' 70 0 (by kernel_rfl)
            have h75 : ρ (.tmp 75) = .int .i64 kd := hs'.new' 75 5 (by kernel_rfl)
            have h80 : ρ (.tmp 80) = .slice al Lq.length cl := hs'.new' 80 10 (by kernel_rfl)
            have h82 : ρ (.tmp 82) = .string xn := hs'.new' 82 12 (by kernel_rfl)
            have h84 : ρ (.tmp 84) = .int .i64 c' := hs'.new' 84 14 (by kernel_rfl)
            have hf := hs'.func 36
            go_simp
            exact (HMS.out wo (below_undrew hb)).mono fun e w' ⟨he, hb'⟩ => ⟨_, he, Any.post_vals hb rfl rfl hb'⟩
          · refine Any.owes_plain rfl fun ρ wo hs' hb hc' => ?_
            have h85 : ρ (.tmp 85) = .int .i64 ((0 : Nat) : Int) := hs'.new' 85 15 (by kernel_rfl)
            go_simp
            exact Any.post_val hb rfl rfl
        intro vals w6 hb hk ha
        have h16 : vals 16 = .int .i64 ((0 : Nat) : Int) := hk 16 (by kernel_rfl)
        have HB6 := Lib.hid hb
        clear hk ha hb
        simp only [Any.putAll]
        go_frame
        simp only [Nat.zero_add, Nat.reduceAdd]
        rw [h16]
        clear h16
        go_wp2_with fail
        go_roundw
        case rel => exact ⟨k + 1, Q, c', by omega, by go_num, HQL.out, HSK.out trivial _ HB6.out, ownsRow_below HKE.out HB6.out⟩
        case measure => (simp [intOf]) <;> omega
      · have hn1 : 0 < n := by omega
        have HN1 := Lib.hid hn1
        have HMS := HMS0
        have tn0 : ((0 : Int) < (n : Int)) := by omega
        clear HMS0 HSK hn0
        go_wp2_with fail
        refine Any.region_lit (fun
          | 0 => Any.val (vt)
          | 1 => Any.val (.slice (some ⟨bb, 0, none⟩) R.length cv)
          | 2 => Any.val (.int .i64 (k : Int))
          | 3 => Any.val (.pointer (some ⟨bb, k * 3, none⟩))
          | 4 => Any.val (.pointer (some ⟨bb, k * 3 + 1, none⟩))
          | 5 => Any.val (.int .i64 kd)
          | 6 => Any.val (.slice (some ⟨bb, 0, none⟩) R.length cv)
          | 7 => Any.val (.int .i64 (k : Int))
          | 8 => Any.val (.pointer (some ⟨bb, k * 3, none⟩))
          | 9 => Any.val (.pointer (some ⟨bb, k * 3 + 2, none⟩))
          | 10 => Any.val (.slice al Lq.length cl)
          | 11 => Any.val (.pointer (some ⟨b17, 0, none⟩))
          | 12 => Any.val (.string xn)
          | 13 => Any.val (.pointer (some ⟨b17, 1, none⟩))
          | 14 => Any.val (.int .i64 c')
          | 15 => Any.val (.int .i64 (n : Int))
          | 16 => Any.val (.int .i64 (n : Int))
          | _ => Any.idle) (by kernel_rfl) (by kernel_rfl) (by kernel_rfl) ?_ ?_ ?_
        · intro i _
          match i with
          | 0 => exact Any.lasts_val _
          | 1 => exact Any.lasts_val _
          | 2 => exact Any.lasts_val _
          | 3 => exact Any.lasts_val _
          | 4 => exact Any.lasts_val _
          | 5 => exact Any.lasts_val _
          | 6 => exact Any.lasts_val _
          | 7 => exact Any.lasts_val _
          | 8 => exact Any.lasts_val _
          | 9 => exact Any.lasts_val _
          | 10 => exact Any.lasts_val _
          | 11 => exact Any.lasts_val _
          | 12 => exact Any.lasts_val _
          | 13 => exact Any.lasts_val _
          | 14 => exact Any.lasts_val _
          | 15 => exact Any.lasts_val _
          | 16 => exact Any.lasts_val _
          | n + 17 => exact Any.lasts_idle
        · refine ⟨?_, ?_, ?_, ?_, ?_, ?_, ?_, ?_, ?_, ?_, ?_, ?_, ?_, ?_, ?_, ?_, ?_, trivial⟩
          · refine Any.owes_plain rfl fun ρ wo hs' hb hc' => ?_
            have h0 : ρ (.tmp 0) = vt := hs'.old' 0 (by kernel_rfl)
            exact Any.ok_move (Any.post_val hb rfl h0)
          · refine Any.owes_plain rfl fun ρ wo hs' hb hc' => ?_
            have h14 : ρ (.tmp 14) = .slice (some ⟨bb, 0, none⟩) R.length cv := hs'.old' 14 (by kernel_rfl)
            exact Any.ok_move (Any.post_val hb rfl h14)
          · refine Any.owes_plain rfl fun ρ wo hs' hb hc' => ?_
            have h18 : ρ (.tmp 18) = .int .i64 (k : Int) := hs'.old' 18 (by kernel_rfl)
            exact Any.ok_move (Any.post_val hb rfl h18)
          · refine Any.owes_plain rfl fun ρ wo hs' hb hc' => ?_
            have h71 : ρ (.tmp 71) = .slice (some ⟨bb, 0, none⟩) R.length cv := hs'.new' 71 1 (by kernel_rfl)
            have h72 : ρ (.tmp 72) = .int .i64 (k : Int) := hs'.new' 72 2 (by kernel_rfl)
            go_simp
            exact Any.post_val hb rfl rfl
          · refine Any.owes_plain rfl fun ρ wo hs' hb hc' => ?_
            have h73 : ρ (.tmp 73) = .pointer (some ⟨bb, k * 3, none⟩) := hs'.new' 73 3 (by kernel_rfl)
            go_simp
            exact Any.post_val hb rfl rfl
          · refine Any.owes_plain rfl fun ρ wo hs' hb hc' => ?_
            have h74 : ρ (.tmp 74) = .pointer (some ⟨bb, k * 3 + 1, none⟩) := hs'.new' 74 4 (by kernel_rfl)
            have c0 : wo.cell? ⟨bb, k * 3 + 1, none⟩ = some (.int .i64 kd) := (HC.out wo (below_undrew hb)).2.1
            go_simp
            exact Any.post_val hb rfl rfl
          · refine Any.owes_plain rfl fun ρ wo hs' hb hc' => ?_
            have h14 : ρ (.tmp 14) = .slice (some ⟨bb, 0, none⟩) R.length cv := hs'.old' 14 (by kernel_rfl)
            exact Any.ok_move (Any.post_val hb rfl h14)
          · refine Any.owes_plain rfl fun ρ wo hs' hb hc' => ?_
            have h18 : ρ (.tmp 18) = .int .i64 (k : Int) := hs'.old' 18 (by kernel_rfl)
            exact Any.ok_move (Any.post_val hb rfl h18)
          · refine Any.owes_plain rfl fun ρ wo hs' hb hc' => ?_
            have h76 : ρ (.tmp 76) = .slice (some ⟨bb, 0, none⟩) R.length cv := hs'.new' 76 6 (by kernel_rfl)
            have h77 : ρ (.tmp 77) = .int .i64 (k : Int) := hs'.new' 77 7 (by kernel_rfl)
            go_simp
            exact Any.post_val hb rfl rfl
          · refine Any.owes_plain rfl fun ρ wo hs' hb hc' => ?_
            have h78 : ρ (.tmp 78) = .pointer (some ⟨bb, k * 3, none⟩) := hs'.new' 78 8 (by kernel_rfl)
            go_simp
            exact Any.post_val hb rfl rfl
          · refine Any.owes_plain rfl fun ρ wo hs' hb hc' => ?_
            have h79 : ρ (.tmp 79) = .pointer (some ⟨bb, k * 3 + 2, none⟩) := hs'.new' 79 9 (by kernel_rfl)
            have c0 : wo.cell? ⟨bb, k * 3 + 2, none⟩ = some (.slice al Lq.length cl) := (HC.out wo (below_undrew hb)).2.2.1
            go_simp
            exact Any.post_val hb rfl rfl
          · refine Any.owes_plain rfl fun ρ wo hs' hb hc' => ?_
            have h17 : ρ (.tmp 17) = .pointer (some ⟨b17, 0, none⟩) := hs'.old' 17 (by kernel_rfl)
            go_simp
            exact Any.post_val hb rfl rfl
          · refine Any.owes_plain rfl fun ρ wo hs' hb hc' => ?_
            have h81 : ρ (.tmp 81) = .pointer (some ⟨b17, 0, none⟩) := hs'.new' 81 11 (by kernel_rfl)
            have c0 : wo.cell? ⟨b17, 0, none⟩ = some (.string xn) := (HC.out wo (below_undrew hb)).2.2.2.1
            go_simp
            exact Any.post_val hb rfl rfl
          · refine Any.owes_plain rfl fun ρ wo hs' hb hc' => ?_
            have h17 : ρ (.tmp 17) = .pointer (some ⟨b17, 0, none⟩) := hs'.old' 17 (by kernel_rfl)
            go_simp
            exact Any.post_val hb rfl rfl
          · refine Any.owes_plain rfl fun ρ wo hs' hb hc' => ?_
            have h83 : ρ (.tmp 83) = .pointer (some ⟨b17, 1, none⟩) := hs'.new' 83 13 (by kernel_rfl)
            have c0 : wo.cell? ⟨b17, 1, none⟩ = some (.int .i64 c') := (HC.out wo (below_undrew hb)).2.2.2.2
            go_simp
            exact Any.post_val hb rfl rfl
          · refine Any.owes_plain rfl fun ρ wo hs' hb hc' => ?_
            have h70 : ρ (.tmp 70) = vt := hs'.new' 70 0 (by kernel_rfl)
            have h75 : ρ (.tmp 75) = .int .i64 kd := hs'.new' 75 5 (by kernel_rfl)
            have h80 : ρ (.tmp 80) = .slice al Lq.length cl := hs'.new' 80 10 (by kernel_rfl)
            have h82 : ρ (.tmp 82) = .string xn := hs'.new' 82 12 (by kernel_rfl)
            have h84 : ρ (.tmp 84) = .int .i64 c' := hs'.new' 84 14 (by kernel_rfl)
            have hf := hs'.func 36
            go_simp
            exact (HMS.out wo (below_undrew hb)).mono fun e w' ⟨he, hb'⟩ => ⟨_, he, Any.post_vals hb rfl rfl hb'⟩
          · refine Any.owes_plain rfl fun ρ wo hs' hb hc' => ?_
            have h85 : ρ (.tmp 85) = .int .i64 (n : Int) := hs'.new' 85 15 (by kernel_rfl)
            go_simp
            exact Any.post_val hb rfl rfl
        intro vals w6 hb hk ha
        have h16 : vals 16 = .int .i64 (n : Int) := hk 16 (by kernel_rfl)
        have HB6 := Lib.hid hb
        clear hk ha hb
        simp only [Any.putAll]
        go_frame
        simp only [Nat.zero_add, Nat.reduceAdd]
        rw [h16]
        clear h16
        go_wp2_with fail
        have HC6 := Lib.hid (fun W (hW : Below w6.heap.size w6 W) => HC.out W (HB6.out.trans (hW.mono HB6.out.size)))
        have HWI6 := Lib.hid (fun W (hW : Below w6.heap.size w6 W) => HWI0.out W (HB6.out.trans (hW.mono HB6.out.size)))
        have HWI := HWI6
        clear HMS HWI0 HWI6
        refine Any.region_litL (fun
          | 0 => Any.val (.slice (some ⟨bb, 0, none⟩) R.length cv)
          | 1 => Any.val (.int .i64 (k : Int))
          | 2 => Any.val (.slice (some ⟨bb, 0, none⟩) R.length cv)
          | 3 => Any.val (.int .i64 (k : Int))
          | 4 => Any.val (.pointer (some ⟨bb, k * 3, none⟩))
          | 5 => Any.val (.pointer (some ⟨bb, k * 3 + 2, none⟩))
          | 6 => Any.val (.slice al Lq.length cl)
          | 7 => Any.val (.pointer (some ⟨b17, 0, none⟩))
          | 8 => Any.val (.string xn)
          | 9 => Any.val (.int .i64 (n : Int))
          | 10 => Any.row w6.heap.size 38 2 NL (ltCells (Lq ++ [(⟨xn, (n : Int)⟩ : Lt)])) []
          | 11 => Any.val (.pointer (some ⟨bb, k * 3, none⟩))
          | 12 => Any.val (.pointer (some ⟨bb, k * 3 + 2, none⟩))
          | _ => Any.idle) 13 _ (by kernel_rfl) rfl rfl rfl (by kernel_rfl) (by kernel_rfl) (by kernel_rfl) ?_ ?_ ?_
        · intro i _
          match i with
          | 0 => exact Any.lasts_val _
          | 1 => exact Any.lasts_val _
          | 2 => exact Any.lasts_val _
          | 3 => exact Any.lasts_val _
          | 4 => exact Any.lasts_val _
          | 5 => exact Any.lasts_val _
          | 6 => exact Any.lasts_val _
          | 7 => exact Any.lasts_val _
          | 8 => exact Any.lasts_val _
          | 9 => exact Any.lasts_val _
          | 10 => exact Any.lasts_row _ _ _ _ _ _
          | 11 => exact Any.lasts_val _
          | 12 => exact Any.lasts_val _
          | n + 13 => exact Any.lasts_idle
        · simp only [List.take_succ_cons, List.take_zero]
          refine ⟨?_, ?_, ?_, ?_, ?_, ?_, ?_, ?_, ?_, ?_, ?_, ?_, ?_, trivial⟩
          · refine Any.owes_plain rfl fun ρ wo hs' hb hc' => ?_
            have h14 : ρ (.tmp 14) = .slice (some ⟨bb, 0, none⟩) R.length cv := hs'.old' 14 (by kernel_rfl)
            exact Any.ok_move (Any.post_val hb rfl h14)
          · refine Any.owes_plain rfl fun ρ wo hs' hb hc' => ?_
            have h18 : ρ (.tmp 18) = .int .i64 (k : Int) := hs'.old' 18 (by kernel_rfl)
            exact Any.ok_move (Any.post_val hb rfl h18)
          · refine Any.owes_plain rfl fun ρ wo hs' hb hc' => ?_
            have h14 : ρ (.tmp 14) = .slice (some ⟨bb, 0, none⟩) R.length cv := hs'.old' 14 (by kernel_rfl)
            exact Any.ok_move (Any.post_val hb rfl h14)
          · refine Any.owes_plain rfl fun ρ wo hs' hb hc' => ?_
            have h18 : ρ (.tmp 18) = .int .i64 (k : Int) := hs'.old' 18 (by kernel_rfl)
            exact Any.ok_move (Any.post_val hb rfl h18)
          · refine Any.owes_plain rfl fun ρ wo hs' hb hc' => ?_
            have h90 : ρ (.tmp 90) = .slice (some ⟨bb, 0, none⟩) R.length cv := hs'.new' 90 2 (by kernel_rfl)
            have h91 : ρ (.tmp 91) = .int .i64 (k : Int) := hs'.new' 91 3 (by kernel_rfl)
            go_simp
            exact Any.post_val hb rfl rfl
          · refine Any.owes_plain rfl fun ρ wo hs' hb hc' => ?_
            have h92 : ρ (.tmp 92) = .pointer (some ⟨bb, k * 3, none⟩) := hs'.new' 92 4 (by kernel_rfl)
            go_simp
            exact Any.post_val hb rfl rfl
          · refine Any.owes_plain rfl fun ρ wo hs' hb hc' => ?_
            have h93 : ρ (.tmp 93) = .pointer (some ⟨bb, k * 3 + 2, none⟩) := hs'.new' 93 5 (by kernel_rfl)
            have c0 : wo.cell? ⟨bb, k * 3 + 2, none⟩ = some (.slice al Lq.length cl) := (HC6.out wo (below_undrew hb)).2.2.1
            go_simp
            exact Any.post_val hb rfl rfl
          · refine Any.owes_plain rfl fun ρ wo hs' hb hc' => ?_
            have h17 : ρ (.tmp 17) = .pointer (some ⟨b17, 0, none⟩) := hs'.old' 17 (by kernel_rfl)
            go_simp
            exact Any.post_val hb rfl rfl
          · refine Any.owes_plain rfl fun ρ wo hs' hb hc' => ?_
            have h95 : ρ (.tmp 95) = .pointer (some ⟨b17, 0, none⟩) := hs'.new' 95 7 (by kernel_rfl)
            have c0 : wo.cell? ⟨b17, 0, none⟩ = some (.string xn) := (HC6.out wo (below_undrew hb)).2.2.2.1
            go_simp
            exact Any.post_val hb rfl rfl
          · refine Any.owes_plain rfl fun ρ wo hs' hb hc' => ?_
            have h19 : ρ (.tmp 19) = .int .i64 (n : Int) := hs'.old' 19 (by kernel_rfl)
            exact Any.ok_move (Any.post_val hb rfl h19)
          · refine Any.owes_plain rfl fun ρ wo hs' hb hc' => ?_
            have h94 : ρ (.tmp 94) = .slice al Lq.length cl := hs'.new' 94 6 (by kernel_rfl)
            have h96 : ρ (.tmp 96) = .string xn := hs'.new' 96 8 (by kernel_rfl)
            have h97 : ρ (.tmp 97) = .int .i64 (n : Int) := hs'.new' 97 9 (by kernel_rfl)
            have hf := hs'.func 37
            go_simp
            exact (HWI.out wo (below_undrew hb)).mono fun e w' ⟨v, he, ho, hb'⟩ => ⟨v, he, Any.post_new hb (ownsRow_base ho hb.size) hb' (fun b h => (ho.lt b h).1)⟩
          · refine Any.owes_plain rfl fun ρ wo hs' hb hc' => ?_
            have h88 : ρ (.tmp 88) = .slice (some ⟨bb, 0, none⟩) R.length cv := hs'.new' 88 0 (by kernel_rfl)
            have h89 : ρ (.tmp 89) = .int .i64 (k : Int) := hs'.new' 89 1 (by kernel_rfl)
            go_simp
            exact Any.post_val hb rfl rfl
          · refine Any.owes_plain rfl fun ρ wo hs' hb hc' => ?_
            have h99 : ρ (.tmp 99) = .pointer (some ⟨bb, k * 3, none⟩) := hs'.new' 99 11 (by kernel_rfl)
            go_simp
            exact Any.post_val hb rfl rfl
        intro vals w7 hb hk
        have h10 : w7.ownsRow w6.heap.size 38 2 (vals 10) NL (ltCells (Lq ++ [(⟨xn, (n : Int)⟩ : Lt)])) := hk 10 (by kernel_rfl)
        have h12 : vals 12 = .pointer (some ⟨bb, k * 3 + 2, none⟩) := hk 12 (by kernel_rfl)
        have HB7 := Lib.hid hb
        clear hk hb
        simp only [List.take_succ_cons, List.take_zero, Any.putAll]
        go_frame
        simp only [Nat.zero_add, Nat.reduceAdd]
        rw [h12]
        clear h12
        obtain ⟨aV, cV, hv⟩ := Ord.row_slice h10
        rw [hv] at h10 ⊢
        have HO7 := Lib.hid h10
        clear h10 hv
        obtain ⟨-, -, c0, x0, x1⟩ := HC6.out w7 HB7.out
        have z1 := (HFZ.out w7 (HB6.out.trans (HB7.out.mono HB6.out.size))).1
        go_simp
        have HF := Lib.hid (HFR.out HN1.out w7 w6.heap.size _ (HB6.out.trans (HB7.out.mono HB6.out.size)) HB6.out.size HO7.out)
        have HB07 := Lib.hid (HB6.out.trans (HB7.out.mono HB6.out.size))
        clear c0 x0 x1 z1
        obtain ⟨w8, hw8⟩ : ∃ W, W = w7.setCell ⟨bb, k * 3 + 2, none⟩ (.slice aV NL cV) := ⟨_, rfl⟩
        rw [← hw8] at HF ⊢
        have h17 : w8.heap[b17]? = some (.cells #[.string xn, .int .i64 c'] 38 (0, 0)) := by
          rw [hw8, Below.heap_setCell w7 _ _ b17 (fun e => HBB.out.1 e.symm)]
          exact H17.out _ HB07.out
        have HK8 : Hid (w8.ownsRow 0 38 2 (.slice (some ⟨b4, off4, none⟩) E.length c4) E.length (ltCells E)) := Lib.hid (by rw [hw8]; exact row_set (ownsRow_below HKE.out HB07.out) HBB.out.2)
        have x1 := cell_blk h17 1
        have z1 := free_blk h17 1
        have hcn := HCN.out
        have e9 : wrap64 (c' - (n : Int)) = c' - n := IntWalk.wrap64_in _ (by omega)
        clear hw8 h17
        go_wp2_with fail
        go_roundw
        case rel =>
          obtain ⟨Q', h1, h2⟩ := HST1.out _ HF.out
          have h3 := HQL.out
          rw [h3] at h1 h2
          exact ⟨k + 1, Q', _, by omega, by go_num, h1, h2, row_set HK8.out HE5.out⟩
        case measure => (simp [intOf]) <;> omega
end Go.Proofs.YtgnfdplphpejaaaGreatDoor.Sc
