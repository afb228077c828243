/- Lots stored, by the document. -/
import Derived.Test.YticnmmfiadpbbaaGreatOrdP25
namespace Go.Proofs.YticnmmfiadpbbaaGreat.Any
open Go Go.RowKit
variable {P : Program} {ops : Array Oper} {Q : Exit → Act → World → Prop}
theorem wpl_cat {te e : TypeId} {i : TypeInfo} {z : Value} {size bytes base : Nat} {n m : Nat} {xs news : List Value} {dst : Option Tmp} {x y : Operand} {t : TypeId} {pos : String} {after : Array Edge} {gd : Option (Nat × Bool)} {vx vy : Value} {a : Act} {w : World} {rest : List Oper}
    (hw : Region.wanted ⟨dst, .call ⟨.builtin .append, #[x, y], #[te, te]⟩, t, pos, after, gd⟩ (yielded ops a.tmps) = true) (hx : a.eval x = vx) (hy : a.eval y = vy)
    (hu : P.underlying te = some (.slice e)) (hi : P.info? e = some i) (hz : i.zero = some z)
    (hsz : i.size = size) (hby : i.bytes = bytes) (hzs : z.cells.size = size) (hpos : 0 < size) (hown : w.ownsRow base e size vx n xs) (hsrc : Sc.Src w size vy m news)
    (h1 : ∀ u ∈ news, u.oneCell' = true) (h63 : n + m ≤ maxLen) (hb : (n + m) * bytes ≤ 140737488355328) (hbase : base ≤ w.heap.size)
    (h : ∀ v' w', w'.ownsRow base e size v' (n + m) (xs ++ news) → w.grownBy w' vx.ownBlock → (∀ b, v'.ownBlock = some b → vx.ownBlock = some b ∨ w.heap.size ≤ b) → wpList P ops Q rest (a.put dst v') w') :
    wpList P ops Q (⟨dst, .call ⟨.builtin .append, #[x, y], #[te, te]⟩, t, pos, after, gd⟩ :: rest) a w := by
  subst hx hy
  exact wpl hw (ok_append_own hu hi hz hsz hby hzs hpos hown hsrc h1 h63 hb hbase h)
end Go.Proofs.YticnmmfiadpbbaaGreat.Any
namespace Go.Proofs.YticnmmfiadpbbaaGreat.Sc
open Go Go.RowKit Go.ChangeShapes Go.WideShapes Go.ChangeAt
set_option maxRecDepth 100000

theorem storeRes : (Tryz.f53).results = #[.cell 10 29, .tmp 11] := by kernel_rfl
theorem src_strs {w : World} {v : Value} {l : List ByteArray} (h : Sl w 1 v (l.map stRow)) : Src w 1 v l.length (strCells l) := by
  have := Sl.src h (st_rows l) (by decide)
  rw [List.length_map] at this
  rw [strCells_flat]
  exact this
theorem strs_one (l : List ByteArray) : ∀ u ∈ strCells l, u.oneCell' = true := by
  intro u hu
  obtain ⟨s, _, rfl⟩ := List.mem_map.1 hu
  rfl
theorem cells3_blk {w : World} {b : Nat} {x0 x1 x2 : Value} {T : TypeId} {fr : Nat × Nat} (h : w.heap[b]? = some (.cells #[x0, x1, x2] T fr)) : w.cell? ⟨b, 0, none⟩ = some x0 ∧ w.cell? ⟨b, 1, none⟩ = some x1 ∧ w.cell? ⟨b, 2, none⟩ = some x2 :=
  ⟨cell_blk h 0, cell_blk h 1, cell_blk h 2⟩
/-- The tests of a storing, one by one. -/
theorem store_ways (h : Hs) (n who : ByteArray) (d : Int) (l : List Lt) :
    (nameOk n = false ∧ storeC h n who d l = 1) ∨ (nameOk n = true ∧ nameOk who = false ∧ storeC h n who d l = 1) ∨ (nameOk n = true ∧ nameOk who = true ∧ lotsOk l = false ∧ storeC h n who d l = 1) ∨
    (nameOk n = true ∧ nameOk who = true ∧ lotsOk l = true ∧ ((d < 0 ∧ storeC h n who d l = 3) ∨ (¬ d < 0 ∧ 1048576 < d ∧ storeC h n who d l = 3) ∨
      (¬ d < 0 ∧ ¬ 1048576 < d ∧ ((memB n h.used = true ∧ storeC h n who d l = 5) ∨ (memB n h.used = false ∧ ((4096 ≤ h.used.length ∧ storeC h n who d l = 7) ∨ (¬ 4096 ≤ h.used.length ∧ 64 < l.length ∧ storeC h n who d l = 7) ∨ (¬ 4096 ≤ h.used.length ∧ ¬ 64 < l.length ∧ storeC h n who d l = 0)))))))  := by
  unfold storeC
  cases h1 : nameOk n
  · exact .inl ⟨rfl, by simp⟩
  cases h2 : nameOk who
  · exact .inr (.inl ⟨rfl, rfl, by simp⟩)
  cases h3 : lotsOk l
  · exact .inr (.inr (.inl ⟨rfl, rfl, rfl, by simp⟩))
  refine .inr (.inr (.inr ⟨rfl, rfl, rfl, ?_⟩))
  simp only [Bool.and_self, Bool.true_eq_false, if_false]
  by_cases h4 : d < 0
  · exact .inl ⟨h4, by rw [decide_eq_false (show ¬ 0 ≤ d by omega)]; rfl⟩
  by_cases h5 : 1048576 < d
  · exact .inr (.inl ⟨h4, h5, by rw [decide_eq_false (show ¬ d ≤ 1048576 by omega), Bool.and_false]; rfl⟩)
  refine .inr (.inr ⟨h4, h5, ?_⟩)
  rw [decide_eq_true (show 0 ≤ d by omega), decide_eq_true (show d ≤ 1048576 by omega)]
  cases h6 : memB n h.used
  · refine .inr ⟨rfl, ?_⟩
    by_cases h7 : 4096 ≤ h.used.length
    · exact .inl ⟨h7, by rw [decide_eq_true h7]; rfl⟩
    by_cases h8 : 64 < l.length
    · exact .inr (.inl ⟨h7, h8, by rw [decide_eq_true h8, Bool.or_true]; rfl⟩)
    · exact .inr (.inr ⟨h7, h8, by rw [decide_eq_false h7, decide_eq_false h8]; rfl⟩)
  · exact .inl ⟨rfl, rfl⟩
set_option maxHeartbeats 16000000 in
theorem refStore_any {h : Hs} (x : Value) (n who : ByteArray) (d : Int) (l : List Lt) (vl : Value) (w : World) (r : RefH w x h) (hn : n.size ≤ 9223372036854775807) (hw : who.size ≤ 9223372036854775807) (hs : Sl w 2 vl (l.map Lt.row)) (hf : ∀ x ∈ l, x.fit)
    (hlen : h.L.length ≤ 900000) (hul : h.used.length ≤ 900000) :
    Calls Tryz.prog 53 #[x, .string n, .string who, .int .i64 d, vl] w (HouseP w (storeH h n who d l) (storeC h n who d l)) := by
  have HN1 := Lib.hid (fun W => refName25_any n W hn)
  have HN2 := Lib.hid (fun W => refName25_any who W hw)
  have HLO := Lib.hid (fun W (hW : Below w.heap.size w W) => refLots_any l vl W (hs.below hW (Nat.le_refl _)) hf)
  obtain ⟨M, vL, vU, rfl, h1, h2, h3, h4⟩ := r
  obtain ⟨nm, hnm⟩ : ∃ nm, nm = h.name := ⟨_, rfl⟩
  rw [← hnm]
  have HIN := Lib.hid (fun W (hW : Below w.heap.size w W) => refIn_any h.used n vU W (h4.below hW (Nat.le_refl _)))
  obtain ⟨aL, cL, rfl⟩ : ∃ a c, vL = .slice a M.length c := by simpa using h2.shape
  obtain ⟨aU, cU, rfl⟩ : ∃ a c, vU = .slice a h.used.length c := by simpa using h4.shape
  obtain ⟨al, cl, rfl⟩ : ∃ a c, vl = .slice a l.length c := by simpa using hs.shape
  have HSAME := Lib.hid (fun (w' : World) (c c' : Int) (h' : Hs) (hb : Below w.heap.size w w') (hc : c = c') (hh : h' = h) => HouseP.same hb hnm h1 h2 h3 h4 hc hh)
  obtain ⟨uL, huL⟩ : ∃ u, u = h.used.length := ⟨_, rfl⟩
  have hways := store_ways h n who d l
  rw [← huL] at HSAME HIN hways ⊢
  have HT0 := Lib.hid (Two.start w #[.string nm, .slice aL M.length cL, .slice aU uL cU])
  unfold zeroHs at HT0
  have HPH : Hid (storeC h n who d l ≠ 0 → storeH h n who d l = h) := Lib.hid (fun h0 => if_neg h0)
  have HPS : Hid (storeC h n who d l = 0 → storeH h n who d l = ⟨h.name, rput h.L ⟨n, h.name, who, joinL l, d⟩, h.used ++ [n]⟩) := Lib.hid (fun h0 => if_pos h0)
  generalize storeH h n who d l = PH at *
  generalize storeC h n who d l = PC at *
  have HSL := Lib.hid hs
  have HEQ := Lib.hid h1
  have HS2 := Lib.hid h2
  have HS3 := Lib.hid h3
  have HS4 : Hid (Sl w 1 (.slice aU uL cU) (h.used.map stRow)) := Lib.hid (by rw [huL]; exact h4)
  have HNN := Lib.hid hnm
  have HUU := Lib.hid huL
  have HLN := Lib.hid hlen
  have HUN : Hid (uL ≤ 900000) := Lib.hid (by omega)
  have hll : l.length ≤ 9223372036854775807 := by have := hs.len_le; simp only [List.length_map, maxLen] at this; omega
  have hul' : uL ≤ 9223372036854775807 := by omega
  obtain ⟨i0, hi, hz, hsz, hby⟩ := info_parts infoStr
  have HI := Lib.hid (And.intro hi (And.intro hz (And.intro hsz hby)))
  generalize hMB : memB n h.used = MB at *
  generalize hNB : nameOk n = NB at *
  generalize hWB : nameOk who = WB at *
  generalize hLB : lotsOk l = LB at *
  have HLB := Lib.hid hLB
  clear hMB hNB hWB hLB h1 h2 h3 h4 hnm huL hlen hs hf hul hn hw hi hz hsz hby
  rcases hways with ⟨rfl, rfl⟩ | ⟨rfl, rfl, rfl⟩ | ⟨rfl, rfl, rfl, rfl⟩ | ⟨rfl, rfl, rfl, ⟨g1, rfl⟩ | ⟨g1, g2, rfl⟩ | ⟨g1, g2, ⟨rfl, rfl⟩ | ⟨rfl, ⟨g3, rfl⟩ | ⟨g3, g4, rfl⟩ | ⟨g3, g4, rfl⟩⟩⟩⟩
  · have HQ : Hid (PH = h) := Lib.hid (HPH.out (by decide))
    go_enter Tryz.func53, Tryz.ntmps53
    go_wp2_with (first
      | ((with_reducible refine (HN1.out _).mono ?_); rintro e w1 ⟨rfl, hb1⟩; have HT1 := Lib.hid (HT0.out.below hb1); (try clear c0 c1 c2); obtain ⟨c0, c1, c2⟩ := HT1.out.cells; clear hb1)
      | (refine wpList_store_row (P := Tryz.prog) rfl 29 (.tmp 10) (.tmp 25) rfl (w.heap.size + 1) #[.string nm, .slice aL M.length cL, .slice aU uL cU] rfl rfl _ _ HT1.out.br (by kernel_rfl) rfl house_one ?_)
      | fail)
    have HTR := Lib.hid (HT1.out.row (c := #[.string nm, .slice aL M.length cL, .slice aU uL cU]))
    ((try simp only [Exit.inBlock, Exit.then]); refine bodyPost_ret (results_row_tmp storeRes _ _ (w.heap.size + 1) _ _ (0, 0) _ (.int .i64 1) rfl rfl HTR.out.br Tryz.underlying29 rfl (by kernel_rfl)) rfl ?_)
    exact HSAME.out _ _ _ _ HTR.out.bel (rfl) (HQ.out)
  · have HQ : Hid (PH = h) := Lib.hid (HPH.out (by decide))
    go_enter Tryz.func53, Tryz.ntmps53
    go_wp2_with (first
      | ((with_reducible refine (HN1.out _).mono ?_); rintro e w1 ⟨rfl, hb1⟩; have HT1 := Lib.hid (HT0.out.below hb1); (try clear c0 c1 c2); obtain ⟨c0, c1, c2⟩ := HT1.out.cells; clear hb1)
      | ((with_reducible refine (HN2.out _).mono ?_); rintro e w2 ⟨rfl, hb2⟩; have HT2 := Lib.hid (HT1.out.below hb2); (try clear c0 c1 c2); obtain ⟨c0, c1, c2⟩ := HT2.out.cells; clear hb2)
      | (refine wpList_store_row (P := Tryz.prog) rfl 29 (.tmp 10) (.tmp 25) rfl (w.heap.size + 1) #[.string nm, .slice aL M.length cL, .slice aU uL cU] rfl rfl _ _ HT2.out.br (by kernel_rfl) rfl house_one ?_)
      | fail)
    have HTR := Lib.hid (HT2.out.row (c := #[.string nm, .slice aL M.length cL, .slice aU uL cU]))
    ((try simp only [Exit.inBlock, Exit.then]); refine bodyPost_ret (results_row_tmp storeRes _ _ (w.heap.size + 1) _ _ (0, 0) _ (.int .i64 1) rfl rfl HTR.out.br Tryz.underlying29 rfl (by kernel_rfl)) rfl ?_)
    exact HSAME.out _ _ _ _ HTR.out.bel (rfl) (HQ.out)
  · have HQ : Hid (PH = h) := Lib.hid (HPH.out (by decide))
    go_enter Tryz.func53, Tryz.ntmps53
    go_wp2_with (first
      | ((with_reducible refine (HN1.out _).mono ?_); rintro e w1 ⟨rfl, hb1⟩; have HT1 := Lib.hid (HT0.out.below hb1); (try clear c0 c1 c2); obtain ⟨c0, c1, c2⟩ := HT1.out.cells; clear hb1)
      | ((with_reducible refine (HN2.out _).mono ?_); rintro e w2 ⟨rfl, hb2⟩; have HT2 := Lib.hid (HT1.out.below hb2); (try clear c0 c1 c2); obtain ⟨c0, c1, c2⟩ := HT2.out.cells; clear hb2)
      | ((with_reducible refine (HLO.out _ HT2.out.bel).mono ?_); rintro e w3 ⟨rfl, hb3⟩; have HT3 := Lib.hid (HT2.out.below hb3); (try clear c0 c1 c2); obtain ⟨c0, c1, c2⟩ := HT3.out.cells; clear hb3)
      | (refine wpList_store_row (P := Tryz.prog) rfl 29 (.tmp 10) (.tmp 25) rfl (w.heap.size + 1) #[.string nm, .slice aL M.length cL, .slice aU uL cU] rfl rfl _ _ HT3.out.br (by kernel_rfl) rfl house_one ?_)
      | fail)
    have HTR := Lib.hid (HT3.out.row (c := #[.string nm, .slice aL M.length cL, .slice aU uL cU]))
    ((try simp only [Exit.inBlock, Exit.then]); refine bodyPost_ret (results_row_tmp storeRes _ _ (w.heap.size + 1) _ _ (0, 0) _ (.int .i64 1) rfl rfl HTR.out.br Tryz.underlying29 rfl (by kernel_rfl)) rfl ?_)
    exact HSAME.out _ _ _ _ HTR.out.bel (rfl) (HQ.out)
  · have HQ : Hid (PH = h) := Lib.hid (HPH.out (by decide))
    have t1 : decide (d < 0) = true := decide_eq_true g1
    clear g1
    go_enter Tryz.func53, Tryz.ntmps53
    go_wp2_with (first
      | ((with_reducible refine (HN1.out _).mono ?_); rintro e w1 ⟨rfl, hb1⟩; have HT1 := Lib.hid (HT0.out.below hb1); (try clear c0 c1 c2); obtain ⟨c0, c1, c2⟩ := HT1.out.cells; clear hb1)
      | ((with_reducible refine (HN2.out _).mono ?_); rintro e w2 ⟨rfl, hb2⟩; have HT2 := Lib.hid (HT1.out.below hb2); (try clear c0 c1 c2); obtain ⟨c0, c1, c2⟩ := HT2.out.cells; clear hb2)
      | ((with_reducible refine (HLO.out _ HT2.out.bel).mono ?_); rintro e w3 ⟨rfl, hb3⟩; have HT3 := Lib.hid (HT2.out.below hb3); (try clear c0 c1 c2); obtain ⟨c0, c1, c2⟩ := HT3.out.cells; clear hb3)
      | (refine wpList_store_row (P := Tryz.prog) rfl 29 (.tmp 10) (.tmp 32) rfl (w.heap.size + 1) #[.string nm, .slice aL M.length cL, .slice aU uL cU] rfl rfl _ _ HT3.out.br (by kernel_rfl) rfl house_one ?_)
      | fail)
    have HTR := Lib.hid (HT3.out.row (c := #[.string nm, .slice aL M.length cL, .slice aU uL cU]))
    ((try simp only [Exit.inBlock, Exit.then]); refine bodyPost_ret (results_row_tmp storeRes _ _ (w.heap.size + 1) _ _ (0, 0) _ (.int .i64 3) rfl rfl HTR.out.br Tryz.underlying29 rfl (by kernel_rfl)) rfl ?_)
    exact HSAME.out _ _ _ _ HTR.out.bel (rfl) (HQ.out)
  · have HQ : Hid (PH = h) := Lib.hid (HPH.out (by decide))
    have t1 : decide (d < 0) = false := decide_eq_false g1
    have t2 : decide (1048576 < d) = true := decide_eq_true g2
    clear g1 g2
    go_enter Tryz.func53, Tryz.ntmps53
    go_wp2_with (first
      | ((with_reducible refine (HN1.out _).mono ?_); rintro e w1 ⟨rfl, hb1⟩; have HT1 := Lib.hid (HT0.out.below hb1); (try clear c0 c1 c2); obtain ⟨c0, c1, c2⟩ := HT1.out.cells; clear hb1)
      | ((with_reducible refine (HN2.out _).mono ?_); rintro e w2 ⟨rfl, hb2⟩; have HT2 := Lib.hid (HT1.out.below hb2); (try clear c0 c1 c2); obtain ⟨c0, c1, c2⟩ := HT2.out.cells; clear hb2)
      | ((with_reducible refine (HLO.out _ HT2.out.bel).mono ?_); rintro e w3 ⟨rfl, hb3⟩; have HT3 := Lib.hid (HT2.out.below hb3); (try clear c0 c1 c2); obtain ⟨c0, c1, c2⟩ := HT3.out.cells; clear hb3)
      | (refine wpList_store_row (P := Tryz.prog) rfl 29 (.tmp 10) (.tmp 32) rfl (w.heap.size + 1) #[.string nm, .slice aL M.length cL, .slice aU uL cU] rfl rfl _ _ HT3.out.br (by kernel_rfl) rfl house_one ?_)
      | fail)
    have HTR := Lib.hid (HT3.out.row (c := #[.string nm, .slice aL M.length cL, .slice aU uL cU]))
    ((try simp only [Exit.inBlock, Exit.then]); refine bodyPost_ret (results_row_tmp storeRes _ _ (w.heap.size + 1) _ _ (0, 0) _ (.int .i64 3) rfl rfl HTR.out.br Tryz.underlying29 rfl (by kernel_rfl)) rfl ?_)
    exact HSAME.out _ _ _ _ HTR.out.bel (rfl) (HQ.out)
  · have HQ : Hid (PH = h) := Lib.hid (HPH.out (by decide))
    have t1 : decide (d < 0) = false := decide_eq_false g1
    have t2 : decide (1048576 < d) = false := decide_eq_false g2
    clear g1 g2
    go_enter Tryz.func53, Tryz.ntmps53
    go_wp2_with (first
      | ((with_reducible refine (HN1.out _).mono ?_); rintro e w1 ⟨rfl, hb1⟩; have HT1 := Lib.hid (HT0.out.below hb1); (try clear c0 c1 c2); obtain ⟨c0, c1, c2⟩ := HT1.out.cells; clear hb1)
      | ((with_reducible refine (HN2.out _).mono ?_); rintro e w2 ⟨rfl, hb2⟩; have HT2 := Lib.hid (HT1.out.below hb2); (try clear c0 c1 c2); obtain ⟨c0, c1, c2⟩ := HT2.out.cells; clear hb2)
      | ((with_reducible refine (HLO.out _ HT2.out.bel).mono ?_); rintro e w3 ⟨rfl, hb3⟩; have HT3 := Lib.hid (HT2.out.below hb3); (try clear c0 c1 c2); obtain ⟨c0, c1, c2⟩ := HT3.out.cells; clear hb3)
      | ((with_reducible refine (HIN.out _ HT3.out.bel).mono ?_); rintro e w4 ⟨rfl, hb4⟩; have HT4 := Lib.hid (HT3.out.below hb4); (try clear c0 c1 c2); obtain ⟨c0, c1, c2⟩ := HT4.out.cells; clear hb4)
      | (refine wpList_store_row (P := Tryz.prog) rfl 29 (.tmp 10) (.tmp 37) rfl (w.heap.size + 1) #[.string nm, .slice aL M.length cL, .slice aU uL cU] rfl rfl _ _ HT4.out.br (by kernel_rfl) rfl house_one ?_)
      | fail)
    have HTR := Lib.hid (HT4.out.row (c := #[.string nm, .slice aL M.length cL, .slice aU uL cU]))
    ((try simp only [Exit.inBlock, Exit.then]); refine bodyPost_ret (results_row_tmp storeRes _ _ (w.heap.size + 1) _ _ (0, 0) _ (.int .i64 5) rfl rfl HTR.out.br Tryz.underlying29 rfl (by kernel_rfl)) rfl ?_)
    exact HSAME.out _ _ _ _ HTR.out.bel (rfl) (HQ.out)
  · have HQ : Hid (PH = h) := Lib.hid (HPH.out (by decide))
    have t1 : decide (d < 0) = false := decide_eq_false g1
    have t2 : decide (1048576 < d) = false := decide_eq_false g2
    have t3 : decide ((4096 : Int) ≤ (uL : Int)) = true := decide_eq_true (by omega)
    clear g1 g2 g3
    go_enter Tryz.func53, Tryz.ntmps53
    go_wp2_with (first
      | ((with_reducible refine (HN1.out _).mono ?_); rintro e w1 ⟨rfl, hb1⟩; have HT1 := Lib.hid (HT0.out.below hb1); (try clear c0 c1 c2); obtain ⟨c0, c1, c2⟩ := HT1.out.cells; clear hb1)
      | ((with_reducible refine (HN2.out _).mono ?_); rintro e w2 ⟨rfl, hb2⟩; have HT2 := Lib.hid (HT1.out.below hb2); (try clear c0 c1 c2); obtain ⟨c0, c1, c2⟩ := HT2.out.cells; clear hb2)
      | ((with_reducible refine (HLO.out _ HT2.out.bel).mono ?_); rintro e w3 ⟨rfl, hb3⟩; have HT3 := Lib.hid (HT2.out.below hb3); (try clear c0 c1 c2); obtain ⟨c0, c1, c2⟩ := HT3.out.cells; clear hb3)
      | ((with_reducible refine (HIN.out _ HT3.out.bel).mono ?_); rintro e w4 ⟨rfl, hb4⟩; have HT4 := Lib.hid (HT3.out.below hb4); (try clear c0 c1 c2); obtain ⟨c0, c1, c2⟩ := HT4.out.cells; clear hb4)
      | (refine wpList_store_row (P := Tryz.prog) rfl 29 (.tmp 10) (.tmp 47) rfl (w.heap.size + 1) #[.string nm, .slice aL M.length cL, .slice aU uL cU] rfl rfl _ _ HT4.out.br (by kernel_rfl) rfl house_one ?_)
      | fail)
    have HTR := Lib.hid (HT4.out.row (c := #[.string nm, .slice aL M.length cL, .slice aU uL cU]))
    ((try simp only [Exit.inBlock, Exit.then]); refine bodyPost_ret (results_row_tmp storeRes _ _ (w.heap.size + 1) _ _ (0, 0) _ (.int .i64 7) rfl rfl HTR.out.br Tryz.underlying29 rfl (by kernel_rfl)) rfl ?_)
    exact HSAME.out _ _ _ _ HTR.out.bel (rfl) (HQ.out)
  · have HQ : Hid (PH = h) := Lib.hid (HPH.out (by decide))
    have t1 : decide (d < 0) = false := decide_eq_false g1
    have t2 : decide (1048576 < d) = false := decide_eq_false g2
    have t3 : decide ((4096 : Int) ≤ (uL : Int)) = false := decide_eq_false (by omega)
    have t4 : decide ((64 : Int) < (l.length : Int)) = true := decide_eq_true (by omega)
    clear g1 g2 g3 g4
    go_enter Tryz.func53, Tryz.ntmps53
    go_wp2_with (first
      | ((with_reducible refine (HN1.out _).mono ?_); rintro e w1 ⟨rfl, hb1⟩; have HT1 := Lib.hid (HT0.out.below hb1); (try clear c0 c1 c2); obtain ⟨c0, c1, c2⟩ := HT1.out.cells; clear hb1)
      | ((with_reducible refine (HN2.out _).mono ?_); rintro e w2 ⟨rfl, hb2⟩; have HT2 := Lib.hid (HT1.out.below hb2); (try clear c0 c1 c2); obtain ⟨c0, c1, c2⟩ := HT2.out.cells; clear hb2)
      | ((with_reducible refine (HLO.out _ HT2.out.bel).mono ?_); rintro e w3 ⟨rfl, hb3⟩; have HT3 := Lib.hid (HT2.out.below hb3); (try clear c0 c1 c2); obtain ⟨c0, c1, c2⟩ := HT3.out.cells; clear hb3)
      | ((with_reducible refine (HIN.out _ HT3.out.bel).mono ?_); rintro e w4 ⟨rfl, hb4⟩; have HT4 := Lib.hid (HT3.out.below hb4); (try clear c0 c1 c2); obtain ⟨c0, c1, c2⟩ := HT4.out.cells; clear hb4)
      | (refine wpList_store_row (P := Tryz.prog) rfl 29 (.tmp 10) (.tmp 47) rfl (w.heap.size + 1) #[.string nm, .slice aL M.length cL, .slice aU uL cU] rfl rfl _ _ HT4.out.br (by kernel_rfl) rfl house_one ?_)
      | fail)
    have HTR := Lib.hid (HT4.out.row (c := #[.string nm, .slice aL M.length cL, .slice aU uL cU]))
    ((try simp only [Exit.inBlock, Exit.then]); refine bodyPost_ret (results_row_tmp storeRes _ _ (w.heap.size + 1) _ _ (0, 0) _ (.int .i64 7) rfl rfl HTR.out.br Tryz.underlying29 rfl (by kernel_rfl)) rfl ?_)
    exact HSAME.out _ _ _ _ HTR.out.bel (rfl) (HQ.out)
  · have HQ : Hid (PH = ⟨h.name, rput h.L ⟨n, h.name, who, joinL l, d⟩, h.used ++ [n]⟩) := Lib.hid (HPS.out rfl)
    have t1 : decide (d < 0) = false := decide_eq_false g1
    have t2 : decide (1048576 < d) = false := decide_eq_false g2
    have t3 : decide ((4096 : Int) ≤ (uL : Int)) = false := decide_eq_false (by omega)
    have t4 : decide ((64 : Int) < (l.length : Int)) = false := decide_eq_false (by omega)
    have HL64 : Hid (l.length ≤ 64) := Lib.hid (by omega)
    clear g1 g2 g3 g4 HPH HPS
    go_enter Tryz.func53, Tryz.ntmps53
    go_wp2_with (first
      | ((with_reducible refine (HN1.out _).mono ?_); rintro e w1 ⟨rfl, hb1⟩; have HT1 := Lib.hid (HT0.out.below hb1); (try clear c0 c1 c2); obtain ⟨c0, c1, c2⟩ := HT1.out.cells; clear hb1)
      | ((with_reducible refine (HN2.out _).mono ?_); rintro e w2 ⟨rfl, hb2⟩; have HT2 := Lib.hid (HT1.out.below hb2); (try clear c0 c1 c2); obtain ⟨c0, c1, c2⟩ := HT2.out.cells; clear hb2)
      | ((with_reducible refine (HLO.out _ HT2.out.bel).mono ?_); rintro e w3 ⟨rfl, hb3⟩; have HT3 := Lib.hid (HT2.out.below hb3); (try clear c0 c1 c2); obtain ⟨c0, c1, c2⟩ := HT3.out.cells; clear hb3)
      | ((with_reducible refine (HIN.out _ HT3.out.bel).mono ?_); rintro e w4 ⟨rfl, hb4⟩; have HT4 := Lib.hid (HT3.out.below hb4); (try clear c0 c1 c2); obtain ⟨c0, c1, c2⟩ := HT4.out.cells; clear hb4)
      | fail)
    obtain ⟨J, hJ⟩ : ∃ J, J = joinL l := ⟨_, rfl⟩
    obtain ⟨B9, hB9⟩ : ∃ B, B = w4.heap.size := ⟨_, rfl⟩
    obtain ⟨M9, hM9⟩ : ∃ M', M' = M := ⟨_, rfl⟩
    have HB9 : Hid (B9 ≤ w4.heap.size) := Lib.hid (Nat.le_of_eq hB9)
    have HX9 : Hid (w.heap.size < B9) := Lib.hid (by have := HT4.out.lt; omega)
    have HX8 : Hid (w.heap.size + 1 < B9) := Lib.hid (by have := HT4.out.lt; omega)
    have HL9 : Hid (w.heap.size < w4.drew.heap.size) := Lib.hid (by have := HT4.out.lt; show w.heap.size < w4.heap.size; omega)
    have HBX9 : Hid (w4.drew.heap[w.heap.size]? = some (.cells #[.string nm, .slice aL M.length cL, .slice aU uL cU] 29 (0, 0))) := Lib.hid HT4.out.bx
    have HBK9 : Hid (∀ W, Keep (fun k => k = w.heap.size) w4.drew W → Below w.heap.size w W) := Lib.hid (fun W hW => hW.undrew.behind HT4.out.bel HT4.out.bel.size (fun k hk e => by omega))
    have HJN : Hid (∀ W, Below w.heap.size w W → Calls Tryz.prog 76 #[.slice al l.length cl] W (RetRow W 47 2 J.length (ltCells J))) := Lib.hid (fun W hW => by
      rw [hJ]
      refine refJoin_any l _ W (HSL.out.below hW (Nat.le_refl _)) (by have := HL64.out; omega) (lotsOk_pos HLB.out) fun g => ?_
      have h1 := posTot_totC (lotsOk_pos HLB.out) g
      have h2 := lotsOk_max HLB.out
      have h3 := HL64.out
      omega)
    have HPU : Hid (∀ W, Below w.heap.size w W → ∀ s, Sl W 2 s (J.map Lt.row) → Calls Tryz.prog 75 #[.slice aL M.length cL, .agg (Rv.cells ⟨⟨n, nm, who, J, d⟩, s⟩)] W (RetRow W 34 5 (rputV M9 ⟨⟨n, nm, who, J, d⟩, s⟩).length (rvCells (rputV M9 ⟨⟨n, nm, who, J, d⟩, s⟩)))) := Lib.hid (fun W hW s hss => by
      rw [hM9]
      exact refPut_rc M ⟨⟨n, nm, who, J, d⟩, s⟩ _ W (HS2.out.below hW (Nat.le_refl _)) (fun y hy => Sl.below (HS3.out y hy) hW (Nat.le_refl _)) hss (by have := congrArg List.length HEQ.out; simp only [rcsOf, List.length_map] at this; have := HLN.out; omega))
    have HME : Hid (∀ s, rcsOf (rputV M9 ⟨⟨n, nm, who, J, d⟩, s⟩) = rput h.L ⟨n, h.name, who, joinL l, d⟩) := Lib.hid (fun s => by rw [hM9, rputV_of, HEQ.out, hJ, HNN.out])
    have HMK : Hid (∀ s W, Below w.heap.size w W → Sl W 2 s (J.map Lt.row) → ∀ y ∈ rputV M9 ⟨⟨n, nm, who, J, d⟩, s⟩, RvOk W y) := Lib.hid (fun s W hW hss y hy => by
      rw [hM9] at hy
      rcases mem_rputV hy with e | e
      · rw [e]; exact hss
      · exact Sl.below (HS3.out y e) hW (Nat.le_refl _))
    clear hJ hB9 hM9 c0 c1 c2
    refine Ord.region_lit (fun
      | 0 => Ord.val (.pointer (some ⟨w.heap.size, 1, none⟩))
      | 1 => Ord.val (.slice aL M.length cL)
      | 2 => Ord.val (.string n)
      | 3 => Ord.val (.pointer (some ⟨w.heap.size, 0, none⟩))
      | 4 => Ord.val (.string nm)
      | 5 => Ord.val (.string who)
      | 6 => Ord.val (.slice al l.length cl)
      | 7 => Ord.lotsS B9 J
      | 8 => Ord.val (.int .i64 d)
      | 9 => Ord.rcS B9 J (⟨n, nm, who, J, d⟩) 7
      | 10 => Ord.putsS B9 J (⟨n, nm, who, J, d⟩) M9 9
      | 11 => Ord.val (.pointer (some ⟨w.heap.size, 1, none⟩))
      | 12 => Ord.inS B9 J (⟨n, nm, who, J, d⟩) M9 w.heap.size nm (.slice aU uL cU) 10
      | _ => Ord.idle) (fun k => k = w.heap.size) (by kernel_rfl) (by kernel_rfl) (by kernel_rfl) ?_ ?_ ?_ ?_
    · intro i _
      match i with
      | 0 => exact Ord.lasts_val _
      | 1 => exact Ord.lasts_val _
      | 2 => exact Ord.lasts_val _
      | 3 => exact Ord.lasts_val _
      | 4 => exact Ord.lasts_val _
      | 5 => exact Ord.lasts_val _
      | 6 => exact Ord.lasts_val _
      | 7 => exact Ord.lasts_lots _ _
      | 8 => exact Ord.lasts_val _
      | 9 => exact Ord.lasts_rc _ _ _ _
      | 10 => exact Ord.lasts_puts _ _ _ _ _
      | 11 => exact Ord.lasts_val _
      | 12 => exact Ord.lasts_in _ _ _ _ _ _ _ _
      | n + 13 => exact Ord.lasts_idle
    · refine ⟨fun k b _ hh => ?_, fun k b _ hh => ?_, fun k k' b _ _ hne h1 h2 => ?_⟩
      · match k, hh with
        | 0, hh => exact hh.elim
        | 1, hh => exact hh.elim
        | 2, hh => exact hh.elim
        | 3, hh => exact hh.elim
        | 4, hh => exact hh.elim
        | 5, hh => exact hh.elim
        | 6, hh => exact hh.elim
        | 7, hh => exact hh.elim
        | 8, hh => exact hh.elim
        | 9, hh => exact hh.elim
        | 10, hh => exact hh.elim
        | 11, hh => exact hh.elim
        | 12, hh => exact hh
        | m + 13, hh => exact hh.elim
      · match k, hh with
        | 0, hh => exact hh.elim
        | 1, hh => exact hh.elim
        | 2, hh => exact hh.elim
        | 3, hh => exact hh.elim
        | 4, hh => exact hh.elim
        | 5, hh => exact hh.elim
        | 6, hh => exact hh.elim
        | 7, hh => exact hh.elim
        | 8, hh => exact hh.elim
        | 9, hh => exact hh.elim
        | 10, hh => exact hh.elim
        | 11, hh => exact hh.elim
        | 12, hh => exact (show _ = w.heap.size from hh) ▸ HL9.out
        | m + 13, hh => exact hh.elim
      · have a : (k = 12 ∧ (fun k => k = w.heap.size) b) := by
          match k, h1 with
          | 0, hh => exact hh.elim
          | 1, hh => exact hh.elim
          | 2, hh => exact hh.elim
          | 3, hh => exact hh.elim
          | 4, hh => exact hh.elim
          | 5, hh => exact hh.elim
          | 6, hh => exact hh.elim
          | 7, hh => exact hh.elim
          | 8, hh => exact hh.elim
          | 9, hh => exact hh.elim
          | 10, hh => exact hh.elim
          | 11, hh => exact hh.elim
          | 12, hh => exact ⟨rfl, hh⟩
          | m + 13, hh => exact hh.elim
        have a' : (k' = 12 ∧ (fun k => k = w.heap.size) b) := by
          match k', h2 with
          | 0, hh => exact hh.elim
          | 1, hh => exact hh.elim
          | 2, hh => exact hh.elim
          | 3, hh => exact hh.elim
          | 4, hh => exact hh.elim
          | 5, hh => exact hh.elim
          | 6, hh => exact hh.elim
          | 7, hh => exact hh.elim
          | 8, hh => exact hh.elim
          | 9, hh => exact hh.elim
          | 10, hh => exact hh.elim
          | 11, hh => exact hh.elim
          | 12, hh => exact ⟨rfl, hh⟩
          | m + 13, hh => exact hh.elim
        rcases a with ⟨rfl, a⟩ <;> rcases a' with ⟨rfl, a'⟩
        all_goals first | exact absurd rfl hne | (exact hne rfl)
    · refine ⟨?_, ?_, ?_, ?_, ?_, ?_, ?_, ?_, ?_, ?_, ?_, ?_, ?_, trivial⟩
      · refine Ord.owes_plain rfl fun ρ Os wo hs' hb hc' => ?_
        have h5 : ρ (.tmp 5) = .pointer (some ⟨w.heap.size, 0, none⟩) := hs'.old' 5 (by kernel_rfl)
        go_simp
        exact Ord.post_val rfl rfl
      · refine Ord.owes_plain rfl fun ρ Os wo hs' hb hc' => ?_
        have h48 : ρ (.tmp 48) = .pointer (some ⟨w.heap.size, 1, none⟩) := hs'.val' 48 0 (by kernel_rfl) rfl
        obtain ⟨c0, c1, c2⟩ := cells3_blk ((hs'.early' 12 (by kernel_rfl) w.heap.size rfl).trans HBX9.out)
        go_simp
        exact Ord.post_val rfl rfl
      · refine Ord.owes_plain rfl fun ρ Os wo hs' hb hc' => ?_
        have h1 : ρ (.tmp 1) = .string n := hs'.old' 1 (by kernel_rfl)
        exact Any.ok_move (Ord.post_val rfl h1)
      · refine Ord.owes_plain rfl fun ρ Os wo hs' hb hc' => ?_
        have h5 : ρ (.tmp 5) = .pointer (some ⟨w.heap.size, 0, none⟩) := hs'.old' 5 (by kernel_rfl)
        go_simp
        exact Ord.post_val rfl rfl
      · refine Ord.owes_plain rfl fun ρ Os wo hs' hb hc' => ?_
        have h51 : ρ (.tmp 51) = .pointer (some ⟨w.heap.size, 0, none⟩) := hs'.val' 51 3 (by kernel_rfl) rfl
        obtain ⟨c0, c1, c2⟩ := cells3_blk ((hs'.early' 12 (by kernel_rfl) w.heap.size rfl).trans HBX9.out)
        go_simp
        exact Ord.post_val rfl rfl
      · refine Ord.owes_plain rfl fun ρ Os wo hs' hb hc' => ?_
        have h2 : ρ (.tmp 2) = .string who := hs'.old' 2 (by kernel_rfl)
        exact Any.ok_move (Ord.post_val rfl h2)
      · refine Ord.owes_plain rfl fun ρ Os wo hs' hb hc' => ?_
        have h4 : ρ (.tmp 4) = .slice al l.length cl := hs'.old' 4 (by kernel_rfl)
        exact Any.ok_move (Ord.post_val rfl h4)
      · refine Ord.owes_plain rfl fun ρ Os wo hs' hb hc' => ?_
        have h54 : ρ (.tmp 54) = .slice al l.length cl := hs'.val' 54 6 (by kernel_rfl) rfl
        have hf := hs'.func 76
        go_simp
        exact (HJN.out wo (HBK9.out wo hb)).mono fun e w' ⟨v, he, ho, hb'⟩ => ⟨v, he, Ord.post_lots ho hb' (Nat.le_trans HB9.out hb.size) rfl⟩
      · refine Ord.owes_plain rfl fun ρ Os wo hs' hb hc' => ?_
        have h3 : ρ (.tmp 3) = .int .i64 d := hs'.old' 3 (by kernel_rfl)
        exact Any.ok_move (Ord.post_val rfl h3)
      · refine Ord.owes_plain rfl fun ρ Os wo hs' hb hc' => ?_
        have h50 : ρ (.tmp 50) = .string n := hs'.val' 50 2 (by kernel_rfl) rfl
        have h52 : ρ (.tmp 52) = .string nm := hs'.val' 52 4 (by kernel_rfl) rfl
        have h53 : ρ (.tmp 53) = .string who := hs'.val' 53 5 (by kernel_rfl) rfl
        have h56 : ρ (.tmp 56) = .int .i64 d := hs'.val' 56 8 (by kernel_rfl) rfl
        obtain ⟨_, oj, Oj⟩ := hs'.new' 55 7 (by kernel_rfl)
        obtain ⟨aJ, cJ, eJ⟩ := row_shape oj
        rw [eJ] at oj Oj
        go_simp
        exact Ord.post_rc oj Oj rfl
      · refine Ord.owes_plain rfl fun ρ Os wo hs' hb hc' => ?_
        have h49 : ρ (.tmp 49) = .slice aL M.length cL := hs'.val' 49 1 (by kernel_rfl) rfl
        have hf := hs'.func 75
        obtain ⟨_, s, eb, oj, Oj⟩ := hs'.new' 57 9 (by kernel_rfl)
        go_simp
        exact (HPU.out wo (HBK9.out wo hb) s (own_lots oj rfl)).mono fun e w' ⟨v, he, ho, hb'⟩ => ⟨v, he, Ord.post_puts ho hb' (Nat.le_trans HB9.out hb.size) oj Oj rfl⟩
      · refine Ord.owes_plain rfl fun ρ Os wo hs' hb hc' => ?_
        have h5 : ρ (.tmp 5) = .pointer (some ⟨w.heap.size, 0, none⟩) := hs'.old' 5 (by kernel_rfl)
        go_simp
        exact Ord.post_val rfl rfl
      · refine Ord.owes_plain rfl fun ρ Os wo hs' hb hc' => ?_
        have h59 : ρ (.tmp 59) = .pointer (some ⟨w.heap.size, 1, none⟩) := hs'.val' 59 11 (by kernel_rfl) rfl
        obtain ⟨_, s, op, oj, Oj⟩ := hs'.new' 58 10 (by kernel_rfl)
        obtain ⟨aV, cV, eV⟩ := row_shape op
        rw [eV] at op Oj
        have hx := (hs'.here w.heap.size rfl).trans HBX9.out
        obtain ⟨c0, c1, c2⟩ := cells3_blk ((hs'.here w.heap.size rfl).trans HBX9.out)
        have zf := free_blk hx 1
        go_simp
        exact Ord.post_in hx op oj Oj HX9.out rfl
    · intro vals Os ρs w5 hk hkn hln hap hbd
      obtain ⟨s, vp, hbx, hvp, hso, -⟩ := hkn 12 (by kernel_rfl)
      have HK9 := Lib.hid hk
      clear hk hkn hln hap hbd
      simp only [Any.putAll]
      go_frame
      obtain ⟨aV, cV, hv⟩ := row_shape hvp
      rw [hv] at hbx hvp
      clear hv
      have HBX5 := Lib.hid hbx
      have HVP := Lib.hid hvp
      have HSO := Lib.hid hso
      clear hbx hvp hso
      have HT5 : Hid (Two w w5 #[.string nm, .slice aV (rputV M9 ⟨⟨n, nm, who, J, d⟩, s⟩).length cV, .slice aU uL cU] #[.string ⟨#[]⟩, .slice none 0 0, .slice none 0 0]) := Lib.hid ⟨HK9.out.behind HT4.out.bel HT4.out.bel.size (fun k hk e => by omega), HBX5.out, HK9.out.blk HT4.out.br (fun e => by omega)⟩
      have HB5 := Lib.hid (one_below w5 (.cells #[] 9))
      have HT5B := Lib.hid (HT5.out.below HB5.out)
      obtain ⟨c0, c1, c2⟩ := HT5B.out.cells
      have zf := free_blk HT5B.out.bx 2
      have HO5 : Hid ((w5.alloc (.cells #[] 9)).ownsRow w5.heap.size 9 1 (.slice (some ⟨w5.heap.size, 0, none⟩) 0 0) 0 []) := Lib.hid (World.ownsRow_made w5 #[] 0 (Nat.le_refl _) (by simp [maxLen]) rfl)
      have HSR : Hid (Src (w5.alloc (.cells #[] 9)) 1 (.slice aU uL cU) uL (strCells h.used)) := Lib.hid (by
        have h1 := src_strs (HS4.out.below (HT5.out.bel.trans (HB5.out.mono HT5.out.bel.size)) (Nat.le_refl _))
        rw [← HUU.out] at h1
        exact h1)
      have HCL : Hid (0 + uL ≤ maxLen ∧ (0 + uL) * 16 ≤ 140737488355328 ∧ w5.heap.size ≤ (w5.alloc (.cells #[] 9)).heap.size) := Lib.hid (by have := HUN.out; have := HB5.out.size; simp only [maxLen]; omega)
      generalize hrl : (rputV M9 ⟨⟨n, nm, who, J, d⟩, s⟩).length = rl at *
      have HRL := Lib.hid hrl
      clear hrl
      go_wp2_with (first
        | ((with_reducible refine Any.wpl_cat ?_ ?_ ?_ Tryz.underlying27 HI.out.1 HI.out.2.1 HI.out.2.2.1 HI.out.2.2.2 ?_ (by decide) HO5.out HSR.out (strs_one _) HCL.out.1 HCL.out.2.1 HCL.out.2.2 ?_); rfl; rfl; rfl; rfl; intro v6 w6 hown6 hgrow6 hwho6; have HB6 := Lib.hid (HB5.out.grown hgrow6 HB5.out.size (fun k hk => (HO5.out.lt k hk).1)); have HO6 : Hid (w6.ownsRow w5.heap.size 9 1 v6 uL (strCells h.used)) := Lib.hid (by have := hown6; simpa using this); have HL6 : Hid (uL + 1 ≤ maxLen ∧ (uL + 1) * 16 ≤ 140737488355328 ∧ w5.heap.size ≤ w6.heap.size) := Lib.hid (by have := HUN.out; have := HB6.out.size; simp only [maxLen]; omega); clear hown6 hgrow6 hwho6)
        | (((with_reducible refine Any.wpl_push ?_ ?_ ?_ Tryz.underlying27 HI.out.1 HI.out.2.1 HI.out.2.2.1 HI.out.2.2.2 ?_ (by decide) ?_ (str_one n) (HO6.out) HL6.out.1 HL6.out.2.1 HL6.out.2.2 ?_); rfl; rfl; rfl; rfl; rfl; intro v7 w7 hown7 hgrow7 hwho7); have HB7 := Lib.hid (HB6.out.grown hgrow7 HB6.out.size (fun k hk => (HO6.out.lt k hk).1)); obtain ⟨a7, c7, e7⟩ := row_shape hown7; subst e7; have HO7 := Lib.hid hown7; have HT7 := Lib.hid (HT5.out.below HB7.out); clear c0 c1 c2 zf hown7 hgrow7 hwho7; obtain ⟨c0, c1, c2⟩ := HT7.out.cells; have zf := free_blk HT7.out.bx 2; have HT8 := Lib.hid (HT7.out.set2 (u := .slice a7 (uL + 1) c7)))
        | (refine wpList_store_row (P := Tryz.prog) rfl 29 (.tmp 10) (.tmp 68) rfl (w.heap.size + 1) #[.string nm, .slice aV rl cV, .slice a7 (uL + 1) c7] rfl rfl _ _ HT8.out.br (by kernel_rfl) rfl house_one ?_)
        | fail)
      have HTR := Lib.hid (HT8.out.row (c := #[.string nm, .slice aV rl cV, .slice a7 (uL + 1) c7]))
      ((try simp only [Exit.inBlock, Exit.then]); refine bodyPost_ret (results_row_tmp storeRes _ _ (w.heap.size + 1) _ _ (0, 0) _ (.int .i64 0) rfl rfl HTR.out.br Tryz.underlying29 rfl (by kernel_rfl)) rfl ?_)
      refine ⟨HTR.out.bel, _, rfl, ?_⟩
      rw [HQ.out]
      have HK8 : Keep (fun b => b = w.heap.size ∨ b = w.heap.size + 1) w5 ((w7.setCell ⟨w.heap.size, 2, none⟩ (.slice a7 (uL + 1) c7)).setRow (w.heap.size + 1) #[.string nm, .slice aV rl cV, .slice a7 (uL + 1) c7]) :=
        ((Keep.of_below HB7.out).trans ((set_keep _ _ _ _).mono fun _ _ e => .inl e) fun _ _ e => e).trans ((setRow_keep _ _ _).mono fun _ _ e => .inr e) fun _ _ e => e
      have HK7 : Keep (fun b => b = w.heap.size ∨ b = w.heap.size + 1) w7 ((w7.setCell ⟨w.heap.size, 2, none⟩ (.slice a7 (uL + 1) c7)).setRow (w.heap.size + 1) #[.string nm, .slice aV rl cV, .slice a7 (uL + 1) c7]) :=
        ((set_keep _ _ _ _).mono fun _ _ e => .inl e).trans ((setRow_keep _ _ _).mono fun _ _ e => .inr e) fun _ _ e => e
      have hs5 : Sl ((w7.setCell ⟨w.heap.size, 2, none⟩ (.slice a7 (uL + 1) c7)).setRow (w.heap.size + 1) #[.string nm, .slice aV rl cV, .slice a7 (uL + 1) c7]) 2 s (J.map Lt.row) := own_lots (ownsRow_keep HSO.out HK8 (fun b hb e => by have := (HSO.out.lt b hb).1; have := HX9.out; have := HX8.out; omega)) rfl
      refine ⟨rputV M9 ⟨⟨n, nm, who, J, d⟩, s⟩, _, _, by rw [← HNN.out], HME.out s, own_rvs (ownsRow_keep HVP.out HK8 (fun b hb e => by have := (HVP.out.lt b hb).1; have := HX9.out; have := HX8.out; omega)) HRL.out.symm, HMK.out s _ HTR.out.bel hs5, ?_⟩
      have h7 := own_strs (l := h.used ++ [n]) (w := w7) (B := w5.heap.size) (v := .slice a7 (uL + 1) c7) (n := uL + 1) (by have := HO7.out; simpa [strCells] using this) (by rw [List.length_append, ← HUU.out]; rfl)
      exact h7.keep HK7 (fun b hb e => by have h1 := (HO7.out.lt b hb).1; have := HT5.out.lt; omega)
end Go.Proofs.YticnmmfiadpbbaaGreat.Sc
