/- Are boxes a packing: by the program. -/
import Derived.Test.YtbigoifpfkdkjaaGreatDoorBxL12
import Derived.Test.YtbigoifpfkdkjaaGreatDoorMkB12
namespace Go.Proofs.YtbigoifpfkdkjaaGreatDoor.Sc
open Go Go.RowKit Go.ChangeShapes Go.WideShapes Go.ChangeAt
set_option maxRecDepth 100000

/-- The map of what was seen. -/
def seenE (S : List ByteArray) : Mp.Ents := S.map fun n => (n, Value.bool true)
theorem seenE_get : ∀ (S : List ByteArray) (n : ByteArray), Mp.mget (seenE S) n = if n ∈ S then some (.bool true) else none
  | [], n => rfl
  | x :: r, n => by
    show (if n = x then some (Value.bool true) else Mp.mget (seenE r) n) = _
    rw [seenE_get r n]
    by_cases h : n = x
    · rw [if_pos h, if_pos (by rw [h]; exact List.mem_cons_self)]
    · rw [if_neg h]
      by_cases hm : n ∈ r
      · rw [if_pos hm, if_pos (List.mem_cons_of_mem _ hm)]
      · rw [if_neg hm, if_neg (by simp [h, hm])]
theorem seenE_put : ∀ {S : List ByteArray} {n : ByteArray}, n ∉ S → Mp.mput (seenE S) n (.bool true) = seenE (S ++ [n])
  | [], n, _ => rfl
  | x :: r, n, h => by
    have h1 : ¬ n = x := fun e => h (by rw [e]; exact List.mem_cons_self)
    show (if n = x then (x, Value.bool true) :: seenE r else (x, Value.bool true) :: Mp.mput (seenE r) n (.bool true)) = _
    rw [if_neg h1, seenE_put (fun hm => h (List.mem_cons_of_mem _ hm))]
    rfl
theorem seenE_val (S : List ByteArray) (n : ByteArray) : Mp.look false (Mp.mget (seenE S) n) (.bool false) = .bool (decide (n ∈ S)) := by
  rw [seenE_get]
  by_cases h : n ∈ S
  · rw [if_pos h, decide_eq_true h]; rfl
  · rw [if_neg h, decide_eq_false h]; rfl
theorem dupT_next {G : List ByteArray} {k : Nat} (h : k < G.length) : dupT (G.take k) (G.drop k) = (decide (G[k] ∈ G.take k) || dupT (G.take (k + 1)) (G.drop (k + 1))) := by
  rw [List.drop_eq_getElem_cons h, dupT, List.take_succ_eq_append_getElem h]
theorem zeroBool12 (w : World) : (zeroValue 4).run Tryz.prog w = .ok (.bool false) w := by kernel_rfl
set_option maxHeartbeats 8000000 in
theorem isRight_any (t : List Gd) (m : ByteArray) (k : Int) (L : List Lt) (bt' bm : Nat) (vl : Value) (w : World) (hap : Lw w) (hs : Sl w 2 vl (L.map Lt.row)) (hl : L.length ≤ 3000) (htab : Tab w bt' bm t) (hn : (codes t).Nodup) (hok : ∀ g ∈ t, gdOk g = true) :
    Calls Tryz.prog 92 #[.pointer (some ⟨bt', 0, none⟩), .agg #[.string m, .int .i64 k, vl]] w (RetB w (boxOk t ⟨m, k, L⟩)) := by
  obtain ⟨al, cl, rfl⟩ : ∃ a c, vl = .slice a L.length c := by simpa using hs.shape
  have tm : ∀ W : World, (Instr.makeMap 94 none).run Tryz.prog W = .ok (.map (some W.heap.size)) (W.alloc (.map #[] 0)) := fun W => by kernel_rfl
  have HMR := Lib.hid (fun W (hW : Below w.heap.size w W) => mkRight_any m W (hap.below hW).2)
  have HGO := Lib.hid (fun W (hW : Below w.heap.size w W) => goes_any t k L bt' bm (.slice al L.length cl) W (hap.below hW).1 (hs.below hW (Nat.le_refl _)) (by omega) (htab.below hW) hn hok)
  have HS := Lib.hid hs
  obtain ⟨w4, hw4⟩ : ∃ w4, w4 = w.alloc (.cells #[.string m, .int .i64 k, .slice al L.length cl] 96) := ⟨_, rfl⟩
  obtain ⟨w5, hw5⟩ : ∃ w5, w5 = w4.alloc (.map #[] 0) := ⟨_, rfl⟩
  obtain ⟨b3, hb3⟩ : ∃ b, b = w.heap.size := ⟨_, rfl⟩
  obtain ⟨b6, hb6⟩ : ∃ b, b = w.heap.size + 1 := ⟨_, rfl⟩
  have hz4 : w4.heap.size = w.heap.size + 1 := by rw [hw4]; simp
  have HM5 : Hid (Mp.MapAt w5 b6 (seenE [])) := Lib.hid (by
    have := Mp.MapAt.made w4
    rw [hz4] at this
    rw [hw5, hb6]
    exact this)
  have HX5 : Hid (w5.heap[b3]? = some (.cells #[.string m, .int .i64 k, .slice al L.length cl] 96 (0, 0))) := Lib.hid (by
    rw [hw5, hb3]
    refine blk (one_below w4 _) (by omega) ?_
    rw [hw4]
    exact heap_alloc_new w _)
  have HB5 : Hid (Below w.heap.size w w5) := Lib.hid (by rw [hw5]; exact (by rw [hw4]; exact one_below w _ : Below w.heap.size w w4).trans ((one_below w4 _).mono (by omega)))
  have HB36 : Hid (w.heap.size ≤ b3 ∧ w.heap.size ≤ b6 ∧ b3 ≠ b6) := Lib.hid (by omega)
  have x2 : ((w.alloc (.cells #[.string m, .int .i64 k, .slice al L.length cl] 96)).alloc (.map #[] 0)).cell? ⟨w.heap.size, 2, none⟩ = some (.slice al L.length cl) := by
    have := cell_blk HX5.out 2
    rw [hw5, hw4, hb3] at this
    exact this
  obtain ⟨G, hG⟩ : ∃ G, G = L.map Lt.good := ⟨_, rfl⟩
  have HG : Hid (G = L.map Lt.good) := Lib.hid hG
  have hgl : G.length = L.length := by rw [hG, List.length_map]
  have HBO : Hid (boxOk t ⟨m, k, L⟩ = (markOk (bt m) && (decide (0 < L.length) && (goP t k L && !dupT [] G)))) := Lib.hid (by rw [hG]; rfl)
  clear hap hs htab hn hok hG
  go_enter Tryz.func92, Tryz.ntmps92
  go_wp2_with fail
  rw [← hb6, ← hb3, ← hw4, ← hw5]
  clear hw4 hw5 hb3 hb6 hz4 x2
  go_loopw [7, 12] (fun _ i wr => ∃ n : Nat, n ≤ L.length ∧ i = .int .i64 n ∧ Mp.MapAt wr b6 (seenE (G.take n)) ∧ dupT [] G = dupT (G.take n) (G.drop n) ∧ wr.heap[b3]? = some (.cells #[.string m, .int .i64 k, .slice al L.length cl] 96 (0, 0)) ∧ Below w.heap.size w wr) (fun _ i _ => L.length - (intOf i).toNat)
  case atStart => exact ⟨0, Nat.zero_le _, rfl, HM5.out, rfl, HX5.out, HB5.out⟩
  case round =>
    obtain ⟨n, hn, rfl, hm, hd, hx, hbel⟩ := hrel
    have HBEL := Lib.hid hbel
    have HM := Lib.hid hm
    by_cases hlt : n < L.length
    · obtain ⟨b, off, rfl, -, hb, hc⟩ := HS.out.at (i := n) (by simpa using hlt)
      have d0 : wr.cell? ⟨b, off + n * 2, none⟩ = some (.string L[n].good) := (hbel.cell (p := ⟨b, off + n * 2, none⟩) hb).trans (hc n L[n].row (by simp [hlt]) 0 _ rfl)
      have d1 : wr.cell? ⟨b, off + n * 2 + 1, none⟩ = some (.int .i64 L[n].cnt) := (hbel.cell (p := ⟨b, off + n * 2 + 1, none⟩) hb).trans (hc n L[n].row (by simp [hlt]) 1 _ rfl)
      have hlg : n < G.length := by omega
      have hgn : G[n] = L[n].good := by simp only [HG.out, List.getElem_map]
      have hdn := dupT_next hlg
      have hsn := List.take_succ_eq_append_getElem hlg
      rw [hgn] at hdn hsn
      generalize L[n] = y at *
      obtain ⟨yn, yc⟩ := y
      simp only at d0 d1 hdn hsn
      have al := one_below wr (.cells #[.string yn, .int .i64 yc] 107)
      have HMA := Lib.hid (hm.same (al.block _ hm.lt))
      have HXA := Lib.hid (blk al (lt_blk hx) hx)
      have HBA := Lib.hid (hbel.trans (al.mono hbel.size))
      have HD := Lib.hid (hd.trans hdn)
      have hGV := Lib.hid (seenE_val (G.take n) yn)
      have hll : L.length ≤ 3000 := hl
      clear hb hc hbel hm hd hx al hdn hgn
      cases hmem : decide (yn ∈ G.take n)
      · rw [hmem] at hGV HD
        have HSN := Lib.hid hsn
        have hput := Lib.hid (seenE_put (of_decide_eq_false hmem))
        generalize G.take n = S at *
        clear hmem hsn
        go_wp2_with (first
          | ((with_reducible refine Mp.wpl_lookup (b := b6) (l := seenE S) (key := yn) ?_ ?_ ?_ Tryz.underlying94 Tryz.underlying9 (zeroBool12 _) HMA.out ?_); rfl; rfl; rfl; rw [hGV.out])
          | ((with_reducible refine Mp.wpl_update (b := b6) (l := seenE S) (key := yn) (v := .bool true) ?_ ?_ ?_ ?_ Tryz.underlying94 Tryz.underlying9 HMA.out ?_); rfl; rfl; rfl; rfl; intro w6 hm6 hg6 hz6; rw [hput.out, ← HSN.out] at hm6; have HM6 := Lib.hid hm6; have HG6 := Lib.hid hg6; clear hm6 hg6 hz6; go_frame)
          | fail)
        go_roundw
        case rel => exact ⟨n + 1, by omega, by go_num, HM6.out, by rw [HD.out]; rfl, (HG6.out.block b3 (lt_blk HXA.out) (fun e => HB36.out.2.2 (Option.some.inj e))).trans HXA.out, HBA.out.grown HG6.out HBA.out.size (fun j hj => by obtain rfl : b6 = j := Option.some.inj hj; exact HB36.out.2.1)⟩
        case measure => (simp [intOf]) <;> omega
      · rw [hmem] at hGV HD
        have HQ : Hid (boxOk t ⟨m, k, L⟩ = false) := Lib.hid (by rw [HBO.out, HD.out]; simp)
        generalize G.take n = S at *
        clear hmem hsn
        go_wp2_with (first
          | ((with_reducible refine Mp.wpl_lookup (b := b6) (l := seenE S) (key := yn) ?_ ?_ ?_ Tryz.underlying94 Tryz.underlying9 (zeroBool12 _) HMA.out ?_); rfl; rfl; rfl; rw [hGV.out])
          | fail)
        go_ret
        exact retB HQ.out.symm HBA.out
    · have hd0 : dupT [] G = false := by rw [hd, List.drop_of_length_le (by omega)]; rfl
      have HBO2 : Hid (boxOk t ⟨m, k, L⟩ = (markOk (bt m) && (decide (0 < L.length) && goP t k L))) := Lib.hid (by rw [HBO.out, hd0]; simp)
      have HX := Lib.hid hx
      have y0 := cell_blk hx 0
      clear hd hx hm hbel hd0
      cases hmk : markOk (bt m)
      · rw [hmk] at HMR HBO2
        have HR : Hid (boxOk t ⟨m, k, L⟩ = false) := Lib.hid (by rw [HBO2.out, Bool.false_and])
        clear hmk HBO2
        go_wp2_with (first
          | ((with_reducible refine (HMR.out _ HBEL.out).mono ?_); rintro e w7 ⟨rfl, hb7⟩; have HB7 := Lib.hid (HBEL.out.trans (hb7.mono HBEL.out.size)); have HX := Lib.hid (blk hb7 (lt_blk HX.out) HX.out); clear hb7)
          | fail)
        go_ret
        exact retB HR.out.symm HB7.out
      · rw [hmk, Bool.true_and] at HBO2
        rw [hmk] at HMR
        cases hl0 : decide (0 < (L.length : Int))
        · have HR : Hid (boxOk t ⟨m, k, L⟩ = false) := Lib.hid (by rw [HBO2.out, decide_eq_false (by have := of_decide_eq_false hl0; omega), Bool.false_and])
          have hl1 : decide (0 < L.length) = false := decide_eq_false (by have := of_decide_eq_false hl0; omega)
          clear hmk HBO2
          go_wp2_with (first
            | ((with_reducible refine (HMR.out _ HBEL.out).mono ?_); rintro e w7 ⟨rfl, hb7⟩; have HB7 := Lib.hid (HBEL.out.trans (hb7.mono HBEL.out.size)); have HX := Lib.hid (blk hb7 (lt_blk HX.out) HX.out); have y2 := cell_blk HX.out 2; clear hb7)
            | fail)
          go_ret
          exact retB HR.out.symm HB7.out
        · have HR : Hid (boxOk t ⟨m, k, L⟩ = goP t k L) := Lib.hid (by rw [HBO2.out, decide_eq_true (by have := of_decide_eq_true hl0; omega), Bool.true_and])
          have hl1 : decide (0 < L.length) = true := decide_eq_true (by have := of_decide_eq_true hl0; omega)
          clear hmk HBO2
          go_wp2_with (first
            | ((with_reducible refine (HMR.out _ HBEL.out).mono ?_); rintro e w7 ⟨rfl, hb7⟩; have HB7 := Lib.hid (HBEL.out.trans (hb7.mono HBEL.out.size)); have HX := Lib.hid (blk hb7 (lt_blk HX.out) HX.out); have y1 := cell_blk HX.out 1; have y2 := cell_blk HX.out 2; clear y0 hb7)
            | ((with_reducible refine (HGO.out _ HB7.out).mono ?_); rintro e w8 ⟨rfl, hb8⟩; have HB8 := Lib.hid (HB7.out.trans (hb8.mono HB7.out.size)); clear hb8)
            | fail)
          go_ret
          exact retB HR.out.symm HB8.out
end Go.Proofs.YtbigoifpfkdkjaaGreatDoor.Sc
namespace Go.Proofs.YtbigoifpfkdkjaaGreatDoor.Sc
open Go Go.RowKit Go.ChangeShapes Go.WideShapes Go.ChangeAt
set_option maxRecDepth 100000

theorem rightF_next {t : List Gd} {M : List ByteArray} {bs : List Bx} {k : Nat} (h : k < bs.length) (hM : M = bs.map Bx.mark) :
    rightF t (M.take k) (bs.drop k) = (!decide (bs[k].mark ∈ M.take k) && (boxOk t bs[k] && rightF t (M.take (k + 1)) (bs.drop (k + 1)))) := by
  have hk : k < M.length := by rw [hM, List.length_map]; exact h
  have he : M[k] = bs[k].mark := by simp only [hM, List.getElem_map]
  rw [List.drop_eq_getElem_cons h, rightF, List.take_succ_eq_append_getElem hk, he]
set_option maxHeartbeats 8000000 in
theorem right_any (t : List Gd) (l : List Bv) (lots : List Lt) (bt' bm : Nat) (vb vl : Value) (w : World) (hap : Lw w) (hb : BoxesAt w vb l) (hf : BxFew l) (hs : Sl w 2 vl (lots.map Lt.row)) (hl : lots.length ≤ 4000) (hc : ∀ x ∈ lots, x.cnt ≤ 1099511627776)
    (htab : Tab w bt' bm t) (hn : (codes t).Nodup) (hok : ∀ g ∈ t, gdOk g = true) :
    Calls Tryz.prog 37 #[.pointer (some ⟨bt', 0, none⟩), vb, vl] w (RetB w (rightP t (l.map Bv.b) lots)) := by
  obtain ⟨ab, cb, rfl⟩ : ∃ a c, vb = .slice a l.length c := by simpa using hb.1.shape
  obtain ⟨al, cl, rfl⟩ : ∃ a c, vl = .slice a lots.length c := by simpa using hs.shape
  have tm : ∀ W : World, (Instr.makeMap 94 none).run Tryz.prog W = .ok (.map (some W.heap.size)) (W.alloc (.map #[] 0)) := fun W => by kernel_rfl
  have HIR := Lib.hid (fun W (hW : Below w.heap.size w W) (x : Bv) (hx : x ∈ l) => isRight_any t x.b.mark x.b.kind x.b.lots bt' bm x.v W (hap.below hW) ((hb.below hW).2 x hx) (by have := hf.lots x hx; omega) (htab.below hW) hn hok)
  have HCO := Lib.hid (fun W (hW : Below w.heap.size w W) => content_any l _ W (hb.below hW) hf)
  have HJN := Lib.hid (fun W (hW : Below w.heap.size w W) => join_any lots _ W (hs.below hW (Nat.le_refl _)) hl hc)
  have HBS := Lib.hid (fun W (hW : Below w.heap.size w W) => hb.below hW)
  have hll : l.length ≤ 65 := hf.len
  obtain ⟨bs, hbs⟩ : ∃ bs, bs = l.map Bv.b := ⟨_, rfl⟩
  obtain ⟨M, hM⟩ : ∃ M, M = bs.map Bx.mark := ⟨_, rfl⟩
  have hbl : bs.length = l.length := by rw [hbs, List.length_map]
  have HBE := Lib.hid hbs
  have HME := Lib.hid hM
  have HRP : Hid (rightP t (l.map Bv.b) lots = (rightF t [] bs && decide (joinL (lotsV l) = joinL lots))) := Lib.hid (by rw [hbs]; rfl)
  obtain ⟨w5, hw5⟩ : ∃ w5, w5 = w.alloc (.map #[] 0) := ⟨_, rfl⟩
  obtain ⟨b6, hb6⟩ : ∃ b, b = w.heap.size := ⟨_, rfl⟩
  have HM5 : Hid (Mp.MapAt w5 b6 (seenE [])) := Lib.hid (by rw [hw5, hb6]; exact Mp.MapAt.made w)
  have HB5 : Hid (Below w.heap.size w w5) := Lib.hid (by rw [hw5]; exact one_below w _)
  have HB6 : Hid (w.heap.size ≤ b6) := Lib.hid (by omega)
  clear hap hb hf hs hl hc htab hn hok hbs hM
  go_enter Tryz.func37, Tryz.ntmps37
  go_wp2_with fail
  rw [← hb6, ← hw5]
  clear hw5 hb6
  go_loopw [9, 13] (fun _ i wr => ∃ n : Nat, n ≤ l.length ∧ i = .int .i64 n ∧ Mp.MapAt wr b6 (seenE (M.take n)) ∧ rightF t [] bs = rightF t (M.take n) (bs.drop n) ∧ Below w.heap.size w wr) (fun _ i _ => l.length - (intOf i).toNat)
  case atStart => exact ⟨0, Nat.zero_le _, rfl, HM5.out, rfl, HB5.out⟩
  case round =>
    obtain ⟨n, hn, rfl, hm, hd, hbel⟩ := hrel
    have HBEL := Lib.hid hbel
    by_cases hlt : n < l.length
    · have hnb : n < bs.length := by omega
      have hbsn : bs[n] = l[n].b := by simp only [HBE.out, List.getElem_map]
      have hnx := rightF_next (t := t) hnb HME.out
      have hMn : M.take (n + 1) = M.take n ++ [l[n].b.mark] := by
        have hk : n < M.length := by rw [HME.out, List.length_map]; exact hnb
        rw [List.take_succ_eq_append_getElem hk]
        simp only [HME.out, List.getElem_map, hbsn]
      rw [hbsn] at hnx
      obtain ⟨b, off, rfl, -, hbk, hc⟩ := (HBS.out wr hbel).1.at (i := n) (by simpa using hlt)
      have d0 : wr.cell? ⟨b, off + n * 3, none⟩ = some (.string l[n].b.mark) := hc n l[n].cells (by simp [hlt]) 0 _ rfl
      have d1 : wr.cell? ⟨b, off + n * 3 + 1, none⟩ = some (.int .i64 l[n].b.kind) := hc n l[n].cells (by simp [hlt]) 1 _ rfl
      have d2 : wr.cell? ⟨b, off + n * 3 + 2, none⟩ = some l[n].v := hc n l[n].cells (by simp [hlt]) 2 _ rfl
      obtain ⟨ax, cx, hxv⟩ := ((HBS.out wr hbel).2 l[n] (List.getElem_mem hlt)).shape
      have HIRn := Lib.hid (fun W (hW : Below w.heap.size w W) => HIR.out W hW l[n] (List.getElem_mem hlt))
      rw [List.length_map] at hxv
      rw [hxv] at d2 HIRn
      obtain ⟨xm, xk, xl, hxm, hxk, hxl⟩ : ∃ xm xk xl, xm = l[n].b.mark ∧ xk = l[n].b.kind ∧ xl = l[n].b.lots := ⟨_, _, _, rfl, rfl, rfl⟩
      have hbx : l[n].b = ⟨xm, xk, xl⟩ := by rw [hxm, hxk, hxl]
      rw [← hxm] at d0 hMn
      rw [← hxk] at d1
      rw [← hxl] at d2
      rw [hbx] at hnx HIRn
      simp only at hnx HIRn
      have alb := one_below wr (.cells #[.string xm, .int .i64 xk, .slice ax xl.length cx] 96)
      have HMA := Lib.hid (hm.same (alb.block _ hm.lt))
      have HBA := Lib.hid (hbel.trans (alb.mono hbel.size))
      have HXA := Lib.hid (heap_alloc_new wr (.cells #[.string xm, .int .i64 xk, .slice ax xl.length cx] 96))
      have HD := Lib.hid (hd.trans hnx)
      have hGV := Lib.hid (seenE_val (M.take n) xm)
      clear hbk hc hbel hm hd alb hnx hxv hxm hxk hxl hbx hbsn hnb
      cases hmem : decide (xm ∈ M.take n)
      · rw [hmem] at hGV HD
        have HSN := Lib.hid hMn
        have hput := Lib.hid (seenE_put (of_decide_eq_false hmem))
        generalize M.take n = S at *
        clear hmem hMn
        cases hir : boxOk t ⟨xm, xk, xl⟩
        · rw [hir] at HIRn HD
          have HQ : Hid (rightP t (l.map Bv.b) lots = false) := Lib.hid (by rw [HRP.out, HD.out]; simp)
          clear hir
          go_wp2_with (first
            | ((with_reducible refine Mp.wpl_lookup (b := b6) (l := seenE S) (key := xm) ?_ ?_ ?_ Tryz.underlying94 Tryz.underlying9 (zeroBool12 _) HMA.out ?_); rfl; rfl; rfl; rw [hGV.out])
            | ((with_reducible refine (HIRn.out _ HBA.out).mono ?_); rintro e w7 ⟨rfl, hb7⟩; have HM7 := Lib.hid (HMA.out.same (hb7.block _ HMA.out.lt)); have HB7 := Lib.hid (HBA.out.trans (hb7.mono HBA.out.size)); have y0 := cell_blk (blk hb7 (lt_blk HXA.out) HXA.out) 0; clear hb7)
            | fail)
          go_ret
          exact retB HQ.out.symm HB7.out
        · rw [hir] at HIRn HD
          clear hir
          go_wp2_with (first
            | ((with_reducible refine Mp.wpl_lookup (b := b6) (l := seenE S) (key := xm) ?_ ?_ ?_ Tryz.underlying94 Tryz.underlying9 (zeroBool12 _) HMA.out ?_); rfl; rfl; rfl; rw [hGV.out])
            | ((with_reducible refine (HIRn.out _ HBA.out).mono ?_); rintro e w7 ⟨rfl, hb7⟩; have HM7 := Lib.hid (HMA.out.same (hb7.block _ HMA.out.lt)); have HB7 := Lib.hid (HBA.out.trans (hb7.mono HBA.out.size)); have y0 := cell_blk (blk hb7 (lt_blk HXA.out) HXA.out) 0; clear hb7)
            | ((with_reducible refine Mp.wpl_update (b := b6) (l := seenE S) (key := xm) (v := .bool true) ?_ ?_ ?_ ?_ Tryz.underlying94 Tryz.underlying9 HM7.out ?_); rfl; rfl; rfl; rfl; intro w8 hm8 hg8 hz8; rw [hput.out, ← HSN.out] at hm8; have HM8 := Lib.hid hm8; have HG8 := Lib.hid hg8; clear hm8 hg8 hz8; go_frame)
            | fail)
          go_roundw
          case rel => exact ⟨n + 1, by omega, by go_num, HM8.out, by rw [HD.out]; rfl, HB7.out.grown HG8.out HB7.out.size (fun j hj => by obtain rfl : b6 = j := Option.some.inj hj; exact HB6.out)⟩
          case measure => (simp [intOf]) <;> omega
      · rw [hmem] at hGV HD
        have HQ : Hid (rightP t (l.map Bv.b) lots = false) := Lib.hid (by rw [HRP.out, HD.out]; simp)
        generalize M.take n = S at *
        clear hmem hMn
        go_wp2_with (first
          | ((with_reducible refine Mp.wpl_lookup (b := b6) (l := seenE S) (key := xm) ?_ ?_ ?_ Tryz.underlying94 Tryz.underlying9 (zeroBool12 _) HMA.out ?_); rfl; rfl; rfl; rw [hGV.out])
          | fail)
        go_ret
        exact retB HQ.out.symm HBA.out
    · have HR : Hid (rightP t (l.map Bv.b) lots = decide (joinL (lotsV l) = joinL lots)) := Lib.hid (by rw [HRP.out, hd, List.drop_of_length_le (by omega)]; rfl)
      clear hd hm hbel
      go_wp2_with (first
        | ((with_reducible refine (HCO.out _ HBEL.out).mono ?_); rintro e w7 ⟨v7, rfl, ho7, hb7⟩; have HS7 := Lib.hid (own_lots ho7 rfl); have HB7 := Lib.hid (HBEL.out.trans (hb7.mono HBEL.out.size)); clear ho7 hb7)
        | ((with_reducible refine (HJN.out _ HB7.out).mono ?_); rintro e w8 ⟨v8, rfl, ho8, hb8⟩; have HS7 := Lib.hid (HS7.out.below hb8 (Nat.le_refl _)); have HS8 := Lib.hid (own_lots ho8 rfl); have HB8 := Lib.hid (HB7.out.trans (hb8.mono HB7.out.size)); clear ho8 hb8)
        | ((with_reducible refine (equalLots_any _ _ _ _ _ HS7.out HS8.out).mono ?_); rintro e w9 ⟨rfl, hb9⟩; have HB9 := Lib.hid (HB8.out.trans (hb9.mono HB8.out.size)); clear hb9)
        | fail)
      go_ret
      exact retB HR.out.symm HB9.out
end Go.Proofs.YtbigoifpfkdkjaaGreatDoor.Sc
