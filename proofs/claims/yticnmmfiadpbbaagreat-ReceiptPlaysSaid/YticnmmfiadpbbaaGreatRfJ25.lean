/- Lots joined, by the document. -/
import Derived.Test.YticnmmfiadpbbaaGreatRfD25
import Derived.Test.YticnmmfiadpbbaaGreatPutT
import Derived.Test.YticnmmfiadpbbaaGreatLtTake
namespace Go.Proofs.YticnmmfiadpbbaaGreat.Sc
open Go Go.RowKit Go.ChangeShapes Go.WideShapes Go.ChangeAt
set_option maxRecDepth 100000

def goodsP (l : List Lt) : List ByteArray := putAll (l.map Lt.good)
theorem join_put {l : List Lt} (h : ∀ x ∈ l, 0 < x.cnt) : (goodsP l).map (fun g => (⟨g, posTot l g⟩ : Lt)) = joinL l := by
  have hm : ∀ g, g ∈ goodsP l ↔ 0 < posTot l g := fun g => by
    rw [goodsP, mem_putAll, posTot_pos, List.mem_map]
    constructor
    · rintro ⟨x, hx, rfl⟩; exact ⟨x, hx, rfl, h x hx⟩
    · rintro ⟨x, hx, rfl, -⟩; exact ⟨x, hx, rfl⟩
  have hn : Norm ((goodsP l).map (fun g => (⟨g, posTot l g⟩ : Lt))) := by
    refine ⟨?_, fun x hx => ?_⟩
    · rw [List.pairwise_map]
      exact putAll_rising _
    · obtain ⟨g, hg, rfl⟩ := List.mem_map.1 hx
      exact (hm g).1 hg
  refine norm_ext hn (joinL_norm l) fun n => ?_
  rw [joinL_tot]
  by_cases hg : n ∈ goodsP l
  · exact posTot_of hn (x := ⟨n, posTot l n⟩) (List.mem_map.2 ⟨n, hg, rfl⟩)
  · have h0 : ¬ 0 < posTot l n := fun e => hg ((hm n).2 e)
    have h1 : ¬ 0 < posTot ((goodsP l).map (fun g => (⟨g, posTot l g⟩ : Lt))) n := fun e => by
      obtain ⟨x, hx, hxn, -⟩ := posTot_pos.1 e
      obtain ⟨g, hg', rfl⟩ := List.mem_map.1 hx
      exact hg (hxn ▸ hg')
    have := posTot_nonneg l n
    have := posTot_nonneg ((goodsP l).map (fun g => (⟨g, posTot l g⟩ : Lt))) n
    omega
theorem putAll_snoc (l : List ByteArray) (s : ByteArray) : putAll (l ++ [s]) = putS (putAll l) s := by simp [putAll, List.foldl_append]
theorem putAll_len (l : List ByteArray) : (putAll l).length ≤ l.length := by
  have : ∀ (l out : List ByteArray), (l.foldl putS out).length ≤ out.length + l.length := by
    intro l
    induction l with
    | nil => intro out; simp
    | cons s r ih =>
      intro out
      have h1 := ih (putS out s)
      have h2 := putS_len out s
      simp only [List.foldl_cons, List.length_cons]
      omega
  simpa [putAll] using this l []
theorem goodsP_take {l : List Lt} {k : Nat} (h : k < l.length) : goodsP (l.take (k + 1)) = putS (goodsP (l.take k)) l[k].good := by
  rw [goodsP, List.take_succ_eq_append_getElem h, List.map_append, List.map_singleton, putAll_snoc]; rfl
theorem goodsP_len (l : List Lt) (k : Nat) : (goodsP (l.take k)).length ≤ l.length := Nat.le_trans (putAll_len _) (by simp; omega)
theorem posTot_take {l : List Lt} {k : Nat} (h : k < l.length) (hp : 0 < l[k].cnt) (g : ByteArray) : posTot (l.take (k + 1)) g = posTot (l.take k) g + if l[k].good = g then l[k].cnt else 0 := by
  rw [List.take_succ_eq_append_getElem h, posTot_snoc]
  congr 1
  by_cases hg : l[k].good = g
  · rw [if_pos ⟨hg, hp⟩, if_pos hg]
  · rw [if_neg (fun e => hg e.1), if_neg hg]
theorem posTot_take_le (l : List Lt) (k : Nat) (g : ByteArray) : posTot (l.take k) g ≤ posTot l g := by
  have := posTot_append (l.take k) (l.drop k) g
  rw [List.take_append_drop] at this
  have := posTot_nonneg (l.drop k) g
  omega
def outP (l : List Lt) (gs : List ByteArray) : List Lt := gs.map fun g => ⟨g, posTot l g⟩
theorem outP_take {l : List Lt} {gs : List ByteArray} {k : Nat} (h : k < gs.length) : outP l (gs.take (k + 1)) = outP l (gs.take k) ++ [⟨gs[k], posTot l gs[k]⟩] := by
  rw [outP, List.take_succ_eq_append_getElem h, List.map_append]; rfl
theorem outP_len (l : List Lt) (gs : List ByteArray) : (outP l gs).length = gs.length := by simp [outP]
theorem goodsP_take_len (l : List Lt) (k : Nat) : (goodsP (l.take k)).length ≤ 100000 ∨ ¬ l.length ≤ 100000 := by
  have := goodsP_len l k; omega
set_option maxHeartbeats 16000000 in
theorem refJoin_any (l : List Lt) (v : Value) (w : World) (hs : Sl w 2 v (l.map Lt.row)) (hl : l.length ≤ 100000) (hp : ∀ x ∈ l, 0 < x.cnt) (hc : ∀ n, posTot l n ≤ 4611686018427387904) :
    Calls Tryz.prog 76 #[v] w (RetRow w 47 2 (joinL l).length (ltCells (joinL l))) := by
  have hll : l.length ≤ 9223372036854775807 := by omega
  have HS := Lib.hid hs
  have HLEN := Lib.hid hl
  have HP := Lib.hid hp
  have HC := Lib.hid hc
  have HJ := Lib.hid (join_put hp)
  obtain ⟨J, hJ⟩ : ∃ J, J = joinL l := ⟨_, rfl⟩
  rw [← hJ] at HJ ⊢
  obtain ⟨a, c, rfl⟩ : ∃ a c, v = .slice a l.length c := by simpa using hs.shape
  obtain ⟨i0, hi, hz, hsz, hby⟩ := info_parts infoLt
  have HI := Lib.hid (And.intro hi (And.intro hz (And.intro hsz hby)))
  obtain ⟨gf, hgf⟩ : ∃ gf : Nat → List ByteArray, gf = fun k => goodsP (l.take k) := ⟨_, rfl⟩
  have HGF : Hid (∀ k, gf k = goodsP (l.take k)) := Lib.hid (fun k => by rw [hgf])
  have HGN : Hid (∀ k, ∀ h : k < l.length, gf (k + 1) = putS (gf k) l[k].good) := Lib.hid (fun k h => by rw [hgf]; exact goodsP_take h)
  have HGL : Hid (∀ k, (gf k).length ≤ 100000) := Lib.hid (fun k => by rw [hgf]; have := goodsP_len l k; simp only; omega)
  clear hi hz hsz hby hs hl hp hc hJ hgf
  go_enter Tryz.func76, Tryz.ntmps76
  go_wp2_with fail
  go_loopw [3, 4] (fun g i wr => ∃ k : Nat, k ≤ l.length ∧ i = .int .i64 k ∧ Sl wr 1 g ((gf k).map stRow) ∧ Below w.heap.size w wr) (fun _ i _ => l.length - (intOf i).toNat)
  case atStart => exact ⟨0, Nat.zero_le _, rfl, by rw [HGF.out]; exact .inl ⟨rfl, _, _, rfl, fun h => by cases h⟩, one_below _ _⟩
  case round =>
    obtain ⟨k, hk, rfl, hg, hbel⟩ := hrel
    have HBEL := Lib.hid hbel
    have HG := Lib.hid hg
    by_cases hlt : k < l.length
    · obtain ⟨b, off, rfl, -, hb, hcc⟩ := HS.out.at (i := k) (by simpa using hlt)
      have d0 := (hbel.cell (p := ⟨b, off + k * 2, none⟩) hb).trans (hcc k l[k].row (by simp [hlt]) 0 _ rfl)
      have HPU := Lib.hid (refPut_any (gf k) l[k].good _ wr HG.out (by have := HGL.out k; omega))
      rw [← HGN.out k hlt] at HPU
      clear hcc hbel hg
      generalize l[k].good = xn at d0 HPU
      go_wp2_with (first
        | ((with_reducible refine HPU.out.mono ?_); rintro e w1 ⟨v1, rfl, hown1, hb1⟩; have HG1 := Lib.hid (own_strs hown1 rfl); have HB1 := Lib.hid (HBEL.out.trans (hb1.mono HBEL.out.size)); clear hown1 hb1)
        | fail)
      go_roundw
      case rel => exact ⟨k + 1, by omega, by go_num, HG1.out, HB1.out⟩
      case measure => (simp [intOf]) <;> omega
    · have hkl : k = l.length := by omega
      have HGS : Hid (gf k = goodsP l) := Lib.hid (by rw [HGF.out, hkl, List.take_of_length_le (Nat.le_refl _)])
      have HGLK := Lib.hid (HGL.out k)
      obtain ⟨gs, hgs⟩ : ∃ gs, gs = gf k := ⟨_, rfl⟩
      rw [← hgs] at HG HGS HGLK
      clear hkl hbel hgs hg HGF HGN HGL
      have hgl : gs.length ≤ 9223372036854775807 := by have := HGLK.out; omega
      have hsh := HG.out.shape
      simp only [List.length_map] at hsh
      obtain ⟨ga, gc, rfl⟩ := hsh
      obtain ⟨wp, rfl⟩ : ∃ wp : World, wp = wr := ⟨_, rfl⟩
      go_wp2_with fail
      obtain ⟨W1, hW1⟩ : ∃ W, W = wp.alloc (.cells #[] 47) := ⟨_, rfl⟩
      obtain ⟨b1, hb1⟩ : ∃ b, b = wp.heap.size := ⟨_, rfl⟩
      have HW1 : Hid (Below wp.heap.size wp W1 ∧ W1.heap.size = wp.heap.size + 1 ∧ W1.ownsRow wp.heap.size 47 2 (.slice (some ⟨wp.heap.size, 0, none⟩) 0 0) 0 []) := Lib.hid (by
        subst hW1
        exact ⟨one_below _ _, by simp, World.ownsRow_made wp #[] 0 (Nat.le_refl _) (by simp [maxLen]) rfl⟩)
      rw [← hb1] at HW1
      rw [← hW1, ← hb1]
      have HB1 : Hid (w.heap.size ≤ b1 ∧ b1 = wp.heap.size) := Lib.hid ⟨by rw [hb1]; exact HBEL.out.size, hb1⟩
      clear hW1 hb1
      go_loopw [5, 27] (fun o i wq => ∃ j : Nat, j ≤ gs.length ∧ i = .int .i64 j ∧ wq.ownsRow b1 47 2 o (outP l (gs.take j)).length (ltCells (outP l (gs.take j))) ∧ Below wp.heap.size wp wq) (fun _ i _ => gs.length - (intOf i).toNat)
      case atStart => exact ⟨0, Nat.zero_le _, rfl, by simpa [outP, ltCells] using HW1.out.2.2, by rw [← HB1.out.2]; exact HW1.out.1⟩
      case round =>
        obtain ⟨j, hj, rfl, hown, hbel2⟩ := hrel
        obtain ⟨wo, rfl⟩ : ∃ wo : World, wo = wr := ⟨_, rfl⟩
        have HOWN := Lib.hid hown
        have HBEL2 := Lib.hid hbel2
        have HBW : Hid (Below w.heap.size w wo) := Lib.hid (HBEL.out.trans (hbel2.mono HBEL.out.size))
        have HOL := Lib.hid (outP_len l (gs.take j))
        have HL : Hid ((outP l (gs.take j)).length + 1 ≤ maxLen ∧ ((outP l (gs.take j)).length + 1) * 24 ≤ 140737488355328 ∧ b1 ≤ wo.heap.size) := Lib.hid (by
          have h1 := HOL.out
          have h2 := HGLK.out
          have h3 := hbel2.size
          have h4 := HB1.out.2
          have h5 : (gs.take j).length ≤ gs.length := by simp; omega
          simp only [maxLen]
          omega)
        by_cases hlt : j < gs.length
        · obtain ⟨b, off, rfl, -, hb, hcc⟩ := HG.out.at (i := j) (by simpa using hlt)
          have d0 := (hbel2.cell (p := ⟨b, off + j * 1, none⟩) hb).trans (hcc j (stRow gs[j]) (by simp [hlt]) 0 _ rfl)
          rw [Nat.mul_one] at d0
          have HNX := Lib.hid (outP_take (l := l) hlt)
          clear hcc hown hbel2
          generalize gs[j] = g at *
          go_wp2_with fail
          go_loopw [8, 9] (fun n i wz => ∃ q : Nat, q ≤ l.length ∧ i = .int .i64 q ∧ n = .int .i64 (posTot (l.take q) g) ∧ Below wo.heap.size wo wz) (fun _ i _ => l.length - (intOf i).toNat)
          case atStart => exact ⟨0, Nat.zero_le _, rfl, by simp [posTot], Below.refl _ _⟩
          case round =>
            obtain ⟨q, hq, rfl, rfl, hbel3⟩ := hrel
            have HBEL3 := Lib.hid hbel3
            have HBZ : Hid (Below w.heap.size w wr) := Lib.hid (HBW.out.trans (hbel3.mono HBW.out.size))
            by_cases hlq : q < l.length
            · obtain ⟨b', off', rfl, -, hb', hcc⟩ := HS.out.at (i := q) (by simpa using hlq)
              have e0 := (HBZ.out.cell (p := ⟨b', off' + q * 2, none⟩) hb').trans (hcc q l[q].row (by simp [hlq]) 0 _ rfl)
              have e1 := (HBZ.out.cell (p := ⟨b', off' + q * 2 + 1, none⟩) hb').trans (hcc q l[q].row (by simp [hlq]) 1 _ rfl)
              have hx := posTot_take hlq (HP.out _ (List.getElem_mem hlq)) g
              have hx2 := posTot_take_le l (q + 1) g
              have hx3 := posTot_nonneg (l.take q) g
              have hx4 := HC.out g
              have HXC := HP.out _ (List.getElem_mem hlq)
              clear hcc hbel3 d0
              generalize l[q] = x at *
              obtain ⟨xn, xc⟩ := x
              simp only at e0 e1 hx HXC
              obtain ⟨P, hP⟩ : ∃ P, P = posTot (l.take q) g := ⟨_, rfl⟩
              obtain ⟨P1, hP1⟩ : ∃ P, P = posTot (l.take (q + 1)) g := ⟨_, rfl⟩
              rw [← hP, ← hP1] at hx
              rw [← hP] at hx3 ⊢
              rw [← hP1] at hx2
              have HP1 := Lib.hid hP1
              clear hP hP1
              by_cases hg : xn = g
              · have t1 := str_yes hg
                rw [if_pos hg] at hx
                have eO : wrap64 (P + xc) = P + xc := wrap_q (by omega)
                have HX := Lib.hid hx
                clear hx hx2 hx3 hx4 hg HXC
                go_wp2_with fail
                go_roundw
                case rel => exact ⟨q + 1, by omega, by go_num, by rw [← HP1.out, HX.out, eO], HBEL3.out⟩
                case measure => (simp [intOf]) <;> omega
              · have t1 := str_no hg
                rw [if_neg hg, Int.add_zero] at hx
                have HX := Lib.hid hx
                clear hx hx2 hx3 hx4 hg HXC
                go_wp2_with fail
                go_roundw
                case rel => exact ⟨q + 1, by omega, by go_num, by rw [← HP1.out, HX.out], HBEL3.out⟩
                case measure => (simp [intOf]) <;> omega
            · have HQ : Hid (posTot (l.take q) g = posTot l g) := Lib.hid (by rw [List.take_of_length_le (by omega)])
              have HOWN5 := Lib.hid (ownsRow_below HOWN.out hbel3)
              have HL5 : Hid ((outP l (gs.take j)).length + 1 ≤ maxLen ∧ ((outP l (gs.take j)).length + 1) * 24 ≤ 140737488355328 ∧ b1 ≤ wr.heap.size) := Lib.hid ⟨HL.out.1, HL.out.2.1, Nat.le_trans HL.out.2.2 hbel3.size⟩
              have HB5 := Lib.hid (HBEL2.out.trans (hbel3.mono HBEL2.out.size))
              rw [HQ.out]
              clear hbel3 d0
              generalize posTot l g = cc at *
              go_wp2_with (first
                | (((with_reducible refine Any.wpl_push ?_ ?_ ?_ Tryz.underlying32 HI.out.1 HI.out.2.1 HI.out.2.2.1 HI.out.2.2.2 ?_ (by decide) ?_ (lt_one g cc) (HOWN5.out) HL5.out.1 HL5.out.2.1 HL5.out.2.2 ?_); rfl; rfl; rfl; rfl; rfl; intro v1 w1 hown1 hgrow1 hwho1); have HB6 := Lib.hid (HB5.out.grown hgrow1 HB5.out.size (fun k hk => by have := (HOWN5.out.lt k hk).1; have := HB1.out.2; omega)); have HOWN6 := Lib.hid hown1; clear hown1 hgrow1 hwho1)
                | fail)
              go_roundw
              case rel => exact ⟨j + 1, by omega, by go_num, by rw [HNX.out]; have := HOWN6.out; simpa [ltCells, Lt.row] using this, HB6.out⟩
              case measure => (simp [intOf]) <;> omega
        · have HE : Hid (outP l (gs.take j) = J) := Lib.hid (by rw [List.take_of_length_le (by omega), ← HJ.out, HGS.out]; rfl)
          rw [HE.out] at HOWN
          clear hown hbel2 HL HOL
          go_wp2_with fail
          go_ret
          exact retRow (B := b1) HOWN.out (by have := HB1.out.1; omega) HBW.out
end Go.Proofs.YticnmmfiadpbbaaGreat.Sc
