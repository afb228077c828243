/- A receipt parted, by the document: the scan of the parts. -/
import Derived.Test.YticnmmfiadpbbaaGreatPartH25
namespace Go.Proofs.YticnmmfiadpbbaaGreat.Sc
open Go Go.RowKit Go.ChangeShapes Go.WideShapes Go.ChangeAt
set_option maxRecDepth 100000

theorem partRes : (Tryz.f56).results = #[.cell 10 29, .tmp 11] := by kernel_rfl
theorem rputV_len (M : List Rv) (x : Rv) : (rputV M x).length = M.length + 1 := by
  induction M with
  | nil => rfl
  | cons a r ih =>
    rw [rputV]
    split
    · rfl
    · rw [List.length_cons, ih]; rfl
theorem part_ways (h : Hs) (n b : ByteArray) (ns : List ByteArray) (ps : List (List Lt)) : (ownC h n b ≠ 0 ∧ partC h n b ns ps = ownC h n b) ∨ (ownC h n b = 0 ∧ ∃ r, rfind h.L n = some r ∧ r.hold = b ∧ partC h n b ns ps = partR h r.lots ns ps) := by
  unfold ownC partC
  cases hr : rfind h.L n with
  | none => exact .inl ⟨(show (4 : Int) ≠ 0 by decide), rfl⟩
  | some r =>
    simp only
    by_cases hb : r.hold = b
    · rw [if_pos hb, if_pos hb]
      exact .inr ⟨rfl, r, rfl, hb, rfl⟩
    · rw [if_neg hb, if_neg hb]
      exact .inl ⟨(show (8 : Int) ≠ 0 by decide), rfl⟩
/-- Where the parts are too few, or not as many as the numbers. -/
theorem partR_one {h : Hs} {lots : List Lt} {ns : List ByteArray} {ps : List (List Lt)} (h1 : partArg ns ps = true) : partR h lots ns ps = 1 := by rw [partR, if_pos h1]
theorem partArg_few {ns : List ByteArray} {ps : List (List Lt)} (h1 : ps.length < 2 ∨ ns.length ≠ ps.length) : partArg ns ps = true := by
  unfold partArg
  rcases h1 with h1 | h1
  · rw [decide_eq_true h1]; rfl
  · rw [decide_eq_false h1]; simp
theorem partArg_num {ns : List ByteArray} {ps : List (List Lt)} (h1 : numsOk ns = false) : partArg ns ps = true := by
  unfold partArg
  rw [h1]; simp
theorem partArg_lot {ns : List ByteArray} {ps : List (List Lt)} {p : List Lt} (hp : p ∈ ps) (h1 : lotsOk p = false) : partArg ns ps = true := by
  unfold partArg
  have : (ps.any fun p => !lotsOk p) = true := List.any_eq_true.2 ⟨p, hp, by rw [h1]; rfl⟩
  rw [this]; simp
theorem npTot_le {L : List Np} {m : Nat} (h : ∀ q ∈ L, q.2.length ≤ m) : npTot L ≤ m * L.length := by
  unfold npTot npSnd
  induction L with
  | nil => simp
  | cons x r ih =>
    have h1 := ih fun q hq => h q (List.mem_cons_of_mem _ hq)
    have h2 := h x List.mem_cons_self
    rw [List.map_cons, List.flatten_cons, List.length_append, List.length_cons, Nat.mul_succ]
    omega
theorem Two.grown {w wr w' : World} {a b : Array Value} {B n sz : Nat} {T : TypeId} {v : Value} {xs : List Value} (t : Two w wr a b) (ho : wr.ownsRow B T sz v n xs) (hB : w.heap.size + 1 < B) (hg : wr.grownBy w' v.ownBlock) : Two w w' a b := by
  have hne : ∀ q, q < B → v.ownBlock ≠ some q := fun q hq e => by have := (ho.lt q e).1; omega
  exact ⟨t.bel.grown hg t.bel.size (fun k hk => by have := (ho.lt k hk).1; omega), (hg.block _ (lt_blk t.bx) (fun e => hne _ (by omega) e.symm)).trans t.bx, (hg.block _ (lt_blk t.br) (fun e => hne _ (by omega) e.symm)).trans t.br⟩
set_option maxHeartbeats 32000000 in
theorem refPart_any {h : Hs} {k0 : Nat} (x : Value) (n b : ByteArray) (ns : List ByteArray) (L : List Np) (vn vp : Value) (w : World) (r : RefH w x h) (hk : HsOk k0 h) (hn : Sl w 1 vn (ns.map stRow)) (hp : NpAt w vp L)
    (hnf : ∀ s ∈ ns, s.size ≤ 9223372036854775807) (hlf : ∀ q ∈ L, ∀ x ∈ q.2, x.fit) (hlen : h.L.length ≤ 800000) (hul : h.used.length ≤ 800000) (hL : L.length ≤ 1000) (hLL : ∀ q ∈ L, q.2.length ≤ 1000) :
    Calls Tryz.prog 56 #[x, .string n, .string b, vn, vp] w (HouseP w (partH h n b ns (npSnd L)) (partC h n b ns (npSnd L))) := by
  have HOW := Lib.hid (fun W (hW : Below w.heap.size w W) => refOwn_any x n b W (r.below hW))
  obtain ⟨M, vL, vU, rfl, h1, h2, h3, h4⟩ := r
  obtain ⟨nm, hnm⟩ : ∃ nm, nm = h.name := ⟨_, rfl⟩
  rw [← hnm] at HOW ⊢
  have HGE := Lib.hid (fun W (hW : Below w.heap.size w W) => refGet_any M nm n vL vU W (h2.below hW (Nat.le_refl _)) (fun y hy => Sl.below (h3 y hy) hW (Nat.le_refl _)))
  obtain ⟨aL, cL, rfl⟩ : ∃ a c, vL = .slice a M.length c := by simpa using h2.shape
  obtain ⟨aU, cU, rfl⟩ : ∃ a c, vU = .slice a h.used.length c := by simpa using h4.shape
  obtain ⟨an, cn, rfl⟩ : ∃ a c, vn = .slice a ns.length c := by simpa using hn.shape
  obtain ⟨ap, cp, rfl⟩ : ∃ a c, vp = .slice a L.length c := by simpa using hp.1.shape
  have HSAME := Lib.hid (fun (w' : World) (c c' : Int) (h' : Hs) (hb : Below w.heap.size w w') (hc : c = c') (hh : h' = h) => HouseP.same hb hnm h1 h2 h3 h4 hc hh)
  obtain ⟨uL, huL⟩ : ∃ u, u = h.used.length := ⟨_, rfl⟩
  rw [← huL] at HGE HSAME HOW ⊢
  have HT0 := Lib.hid (Two.start w #[.string nm, .slice aL M.length cL, .slice aU uL cU])
  unfold zeroHs at HT0
  have hways := part_ways h n b ns (npSnd L)
  have HPH : Hid (partC h n b ns (npSnd L) ≠ 0 → partH h n b ns (npSnd L) = h) := Lib.hid (fun h0 => if_neg h0)
  have HPS := Lib.hid (partH_at h n b ns (npSnd L))
  generalize partH h n b ns (npSnd L) = PH at *
  generalize partC h n b ns (npSnd L) = PC at *
  generalize hC : ownC h n b = C at *
  have HN := Lib.hid hn
  have HP := Lib.hid hp
  have HEQ := Lib.hid h1
  have HS2 := Lib.hid h2
  have HS3 := Lib.hid h3
  have HS4 : Hid (Sl w 1 (.slice aU uL cU) (h.used.map stRow)) := Lib.hid (by rw [huL]; exact h4)
  have HNN := Lib.hid hnm
  have HUU := Lib.hid huL
  have HLN := Lib.hid (And.intro hlen (And.intro hul (And.intro hL hLL)))
  have HOK := Lib.hid hk
  have HNF := Lib.hid hnf
  have HLF := Lib.hid hlf
  have hll : L.length ≤ 9223372036854775807 := by omega
  have hnl : ns.length ≤ 9223372036854775807 := by have := hn.len_le; simp only [List.length_map, maxLen] at this; omega
  have hul' : uL ≤ 800000 := by omega
  clear h1 h2 h3 h4 hnm huL hlen hn hp hnf hlf hk hC hul hL hLL
  rcases hways with ⟨hC0, rfl⟩ | ⟨rfl, rc, hrc, hrb, hPR⟩
  · have t1 : (PC != 0) = true := by simp [hC0]
    have HQ : Hid (PH = h) := Lib.hid (HPH.out hC0)
    clear hC0
    go_enter Tryz.func56, Tryz.ntmps56
    go_wp2_with fail
    refine (HOW.out _ HT0.out.bel).mono ?_
    rintro e w1 ⟨rfl, hb1⟩
    have HT1 := Lib.hid (HT0.out.below hb1)
    obtain ⟨c0, c1, c2⟩ := HT1.out.cells
    clear hb1
    go_wp2_with (first
      | (refine wpList_store_row (P := Tryz.prog) rfl 29 (.tmp 10) (.tmp 26) rfl (w.heap.size + 1) #[.string nm, .slice aL M.length cL, .slice aU uL cU] rfl rfl _ _ HT1.out.br (by kernel_rfl) rfl house_one ?_)
      | fail)
    have HTR := Lib.hid (HT1.out.row (c := #[.string nm, .slice aL M.length cL, .slice aU uL cU]))
    ((try simp only [Exit.inBlock, Exit.then]); refine bodyPost_ret (results_row_tmp partRes _ _ (w.heap.size + 1) _ _ (0, 0) _ (.int .i64 PC) rfl rfl HTR.out.br Tryz.underlying29 rfl (by kernel_rfl)) rfl ?_)
    exact HSAME.out _ _ _ _ HTR.out.bel (rfl) (HQ.out)
  have HRC := Lib.hid hrc
  have HRB := Lib.hid hrb
  have HPR := Lib.hid hPR
  have t1 : ((0 : Int) != 0) = false := rfl
  clear hrc hrb hPR
  by_cases g1 : L.length < 2
  · have hpc : PC = 1 := by rw [HPR.out, partR_one (partArg_few (.inl (by rw [np_len]; exact g1)))]
    subst hpc
    have HQ : Hid (PH = h) := Lib.hid (HPH.out (by decide))
    have t2 : decide ((L.length : Int) < 2) = true := decide_eq_true (by omega)
    clear g1
    go_enter Tryz.func56, Tryz.ntmps56
    go_wp2_with fail
    refine (HOW.out _ HT0.out.bel).mono ?_
    rintro e w1 ⟨rfl, hb1⟩
    have HT1 := Lib.hid (HT0.out.below hb1)
    obtain ⟨c0, c1, c2⟩ := HT1.out.cells
    clear hb1
    go_wp2_with (first
      | (refine wpList_store_row (P := Tryz.prog) rfl 29 (.tmp 10) (.tmp 38) rfl (w.heap.size + 1) #[.string nm, .slice aL M.length cL, .slice aU uL cU] rfl rfl _ _ HT1.out.br (by kernel_rfl) rfl house_one ?_)
      | fail)
    have HTR := Lib.hid (HT1.out.row (c := #[.string nm, .slice aL M.length cL, .slice aU uL cU]))
    ((try simp only [Exit.inBlock, Exit.then]); refine bodyPost_ret (results_row_tmp partRes _ _ (w.heap.size + 1) _ _ (0, 0) _ (.int .i64 1) rfl rfl HTR.out.br Tryz.underlying29 rfl (by kernel_rfl)) rfl ?_)
    exact HSAME.out _ _ _ _ HTR.out.bel (rfl) (HQ.out)
  have t2 : decide ((L.length : Int) < 2) = false := decide_eq_false (by omega)
  have HG1 := Lib.hid g1
  clear g1
  by_cases g2 : ns.length = L.length
  rotate_left
  · have hpc : PC = 1 := by rw [HPR.out, partR_one (partArg_few (.inr (by rw [np_len]; exact g2)))]
    subst hpc
    have HQ : Hid (PH = h) := Lib.hid (HPH.out (by decide))
    have t3 : ((ns.length : Int) != (L.length : Int)) = true := by rw [bne_iff_ne]; omega
    clear g2
    go_enter Tryz.func56, Tryz.ntmps56
    go_wp2_with fail
    refine (HOW.out _ HT0.out.bel).mono ?_
    rintro e w1 ⟨rfl, hb1⟩
    have HT1 := Lib.hid (HT0.out.below hb1)
    obtain ⟨c0, c1, c2⟩ := HT1.out.cells
    clear hb1
    go_wp2_with (first
      | (refine wpList_store_row (P := Tryz.prog) rfl 29 (.tmp 10) (.tmp 38) rfl (w.heap.size + 1) #[.string nm, .slice aL M.length cL, .slice aU uL cU] rfl rfl _ _ HT1.out.br (by kernel_rfl) rfl house_one ?_)
      | fail)
    have HTR := Lib.hid (HT1.out.row (c := #[.string nm, .slice aL M.length cL, .slice aU uL cU]))
    ((try simp only [Exit.inBlock, Exit.then]); refine bodyPost_ret (results_row_tmp partRes _ _ (w.heap.size + 1) _ _ (0, 0) _ (.int .i64 1) rfl rfl HTR.out.br Tryz.underlying29 rfl (by kernel_rfl)) rfl ?_)
    exact HSAME.out _ _ _ _ HTR.out.bel (rfl) (HQ.out)
  have t3 : ((ns.length : Int) != (L.length : Int)) = false := by rw [bne_eq_false_iff_eq]; omega
  have HG2 := Lib.hid g2
  clear g2
  obtain ⟨F0, hF0⟩ : ∃ F : Bool, F = (decide (64 < L.length) || decide (4096 < uL + L.length)) := ⟨_, rfl⟩
  have HF0 := Lib.hid hF0
  obtain ⟨i0, hi, hz, hsz, hby⟩ := info_parts infoLt
  have HI := Lib.hid (And.intro hi (And.intro hz (And.intro hsz hby)))
  obtain ⟨j0, hj, -, -, -⟩ := info_parts infoStr
  have HJ := Lib.hid hj
  obtain ⟨US, hUS⟩ : ∃ U : Int, U = (uL : Int) + (L.length : Int) := ⟨_, rfl⟩
  have ew : wrap64 ((uL : Int) + (L.length : Int)) = US := by rw [hUS]; exact wrap_q (by have := HLN.out.2.2.1; omega)
  obtain ⟨B1', hB1⟩ : ∃ B : Bool, B = decide (64 < L.length) := ⟨_, rfl⟩
  obtain ⟨B2', hB2⟩ : ∃ B : Bool, B = decide (4096 < uL + L.length) := ⟨_, rfl⟩
  have ft0 : decide ((64 : Int) < (L.length : Int)) = B1' := by rw [hB1]; congr 1; apply propext; omega
  have ft1 : decide ((4096 : Int) < US) = B2' := by rw [hB2, hUS]; congr 1; apply propext; omega
  have HFB : Hid (F0 = (B1' || B2')) := Lib.hid (by rw [hB1, hB2]; exact hF0)
  clear hF0 hi hz hsz hby hj hB1 hB2 hUS
  cases B1'
  all_goals
    go_enter Tryz.func56, Tryz.ntmps56
    go_wp2_with fail
    refine (HOW.out _ HT0.out.bel).mono ?_
    rintro e w1 ⟨rfl, hb1⟩
    have HT1 := Lib.hid (HT0.out.below hb1)
    obtain ⟨c0, c1, c2⟩ := HT1.out.cells
    clear hb1
    go_wp2_with fail
    clear c0 c1 c2 ew ft0 ft1
    have HB2 := Lib.hid (one_below w1 (.cells #[] 47))
    have HT2 := Lib.hid (HT1.out.below HB2.out)
    have HLT1 : Hid (w.heap.size + 1 < w1.heap.size) := Lib.hid HT1.out.lt
    have HO2 : Hid ((w1.alloc (.cells #[] 47)).ownsRow w1.heap.size 47 2 (.slice (some ⟨w1.heap.size, 0, none⟩) 0 0) 0 []) := Lib.hid (own_empty (Nat.le_refl _))
    have HWS2 : Hid (w1.heap.size ≤ (w1.alloc (.cells #[] 47)).heap.size) := Lib.hid HB2.out.size
    go_loopw [13, 14, 15, 16] (fun fv ev a i wr => ∃ (k : Nat) (f ex : Bool), k ≤ L.length ∧ i = .int .i64 k ∧ fv = .bool f ∧ ev = .bool ex ∧ wr.ownsRow w1.heap.size 47 2 a (npSnd (L.take k)).flatten.length (ltCells (npSnd (L.take k)).flatten) ∧
      f = (F0 || (npSnd (L.take k)).any fun p => decide (64 < p.length)) ∧ ex = ((ns.take k).any fun n => memB n h.used) ∧ numsOk ns = numsFrom (ns.take k) (ns.drop k) ∧ (∀ q ∈ L.take k, lotsOk q.2 = true) ∧
      Two w wr #[.string nm, .slice aL M.length cL, .slice aU uL cU] #[.string ⟨#[]⟩, .slice none 0 0, .slice none 0 0] ∧ w1.heap.size ≤ wr.heap.size) (fun _ _ _ i _ => L.length - (intOf i).toNat)
    case atStart => exact ⟨0, _, false, Nat.zero_le _, rfl, rfl, rfl, HO2.out, by rw [HFB.out]; simp [npSnd], rfl, rfl, fun q hq => by simp at hq, HT2.out, HWS2.out⟩
    case round =>
      obtain ⟨k, f, ex, hk, rfl, rfl, rfl, hown, hfa, hea, hnf, hla, htw, hws⟩ := hrel
      have HT := Lib.hid htw
      have HOWN := Lib.hid hown
      have HFA := Lib.hid hfa
      have HEA := Lib.hid hea
      have HLA := Lib.hid hla
      have HWS := Lib.hid hws
      by_cases hlt : k < L.length
      · have hlt' : k < ns.length := by have := HG2.out; omega
        have HPK : Hid (NpAt wr (.slice ap L.length cp) L) := Lib.hid ⟨HP.out.1.below htw.bel (Nat.le_refl _), fun q hq => (HP.out.2 q hq).below htw.bel (Nat.le_refl _)⟩
        have HNK := Lib.hid (HN.out.below htw.bel (Nat.le_refl _))
        have hst := HNK.out.take (m := k) (by simp; omega)
        rw [← List.map_take] at hst
        obtain ⟨bp, offp, rfl, -, hbp, hcp⟩ := HPK.out.1.at (i := k) (by simpa using hlt)
        have d0 : wr.cell? ⟨bp, offp + k * 1, none⟩ = some L[k].1 := hcp k [L[k].1] (by simp [hlt]) 0 _ rfl
        rw [Nat.mul_one] at d0
        obtain ⟨bn, offn, rfl, -, hbn, hcn⟩ := HNK.out.at (i := k) (by simpa using hlt')
        have d1 : wr.cell? ⟨bn, offn + k * 1, none⟩ = some (.string ns[k]) := hcn k (stRow ns[k]) (by simp [hlt']) 0 _ rfl
        rw [Nat.mul_one] at d1
        have hx := HPK.out.2 L[k] (List.getElem_mem hlt)
        have HTK : Hid (ns.take (k + 1) = ns.take k ++ [ns[k]]) := Lib.hid (List.take_succ_eq_append_getElem hlt')
        have HLT : Hid (L.take (k + 1) = L.take k ++ [L[k]]) := Lib.hid (List.take_succ_eq_append_getElem hlt)
        have HFT := Lib.hid (npFlat_take hlt)
        have hkt := npTot_take (L := L) k
        rw [npTot_drop hlt] at hkt
        have HMEM : Hid (L[k].2 ∈ npSnd L) := Lib.hid (List.mem_map_of_mem (List.getElem_mem hlt))
        have hfx := HLF.out L[k] (List.getElem_mem hlt)
        have hlx := HLN.out.2.2.2 L[k] (List.getElem_mem hlt)
        have hfs := HNF.out ns[k] (List.getElem_mem hlt')
        rw [List.drop_eq_getElem_cons hlt', numsFrom] at hnf
        generalize L[k] = x at *
        generalize ns[k] = xs at *
        obtain ⟨xv, xl⟩ := x
        simp only at d0 hx hfx hlx HFT hkt HMEM
        obtain ⟨ax, cx, rfl⟩ : ∃ a c, xv = .slice a xl.length c := by simpa using hx.shape
        have HD0 := Lib.hid d0
        have HD1 := Lib.hid d1
        have HBP := Lib.hid hbp
        have HBN := Lib.hid hbn
        have HNF' := Lib.hid hnf
        have HXS := Lib.hid hx
        have hxl : xl.length ≤ 9223372036854775807 := by omega
        have HNX := Lib.hid (fun W (_ : Below wr.heap.size wr W) => refName25_any xs W hfs)
        have HIX := Lib.hid (fun W (hb : Below wr.heap.size wr W) => refIn_any (ns.take k) xs _ W (hst.2.below hb (Nat.le_refl _)))
        have HSL9 : Hid (∀ W, (Instr.slice 27 (.slice (some ⟨bn, offn, none⟩) ns.length cn) none (some (.int .i64 (k : Int))) none).run Tryz.prog W = .ok (.slice (some ⟨bn, offn, none⟩) k cn) W) := Lib.hid (fun W => Any.run_slice_to Tryz.underlying27 HJ.out _ _ _ k hst.1)
        have HLX := Lib.hid (fun W (hb : Below wr.heap.size wr W) => refLots_any xl (.slice ax xl.length cx) W (HXS.out.below hb (Nat.le_refl _)) hfx)
        have HIU := Lib.hid (fun W (hb : Below wr.heap.size wr W) => refIn_any h.used xs (.slice aU uL cU) W ((HS4.out.below HT.out.bel (Nat.le_refl _)).below hb (Nat.le_refl _)))
        have HSRC : Hid (∀ W, Below wr.heap.size wr W → Src W 2 (.slice ax xl.length cx) xl.length (ltCells xl)) := Lib.hid (fun W hb => by
          have := Sl.src (HXS.out.below hb (Nat.le_refl _)) (lt_rows xl) (by decide)
          rwa [List.length_map, ← ltCells_flat] at this)
        have HONE : Hid (∀ u ∈ ltCells xl, u.oneCell' = true) := Lib.hid (lts_one xl)
        have HFN : Hid (((npSnd (L.take (k + 1))).any fun p => decide (64 < p.length)) = (((npSnd (L.take k)).any fun p => decide (64 < p.length)) || decide (64 < xl.length))) := Lib.hid (by rw [HLT.out]; simp [npSnd])
        have HEN : Hid (((ns.take (k + 1)).any fun n => memB n h.used) = (((ns.take k).any fun n => memB n h.used) || memB xs h.used)) := Lib.hid (by rw [HTK.out]; simp)
        have HNG : Hid (nameOk xs = true → memB xs (ns.take k) = false → numsOk ns = numsFrom (ns.take (k + 1)) (ns.drop (k + 1))) := Lib.hid (fun e1 e2 => by rw [hnf, e1, e2, HTK.out]; rfl)
        have ftz : decide ((64 : Int) < (xl.length : Int)) = decide (64 < xl.length) := by congr 1; apply propext; omega
        generalize (npSnd (L.take k)).flatten = A at *
        have HLE : Hid (A.length + xl.length ≤ maxLen ∧ (A.length + xl.length) * 24 ≤ 140737488355328) := Lib.hid (by
          have h1 : npTot L ≤ 1000 * L.length := npTot_le HLN.out.2.2.2
          have h2 := HLN.out.2.2.1
          simp only [maxLen]
          omega)
        obtain ⟨p, hp⟩ : ∃ p, p = nameOk xs := ⟨_, rfl⟩
        obtain ⟨q, hq⟩ : ∃ q, q = memB xs (ns.take k) := ⟨_, rfl⟩
        obtain ⟨r, hr⟩ : ∃ r, r = lotsOk xl := ⟨_, rfl⟩
        obtain ⟨u, hu⟩ : ∃ u, u = memB xs h.used := ⟨_, rfl⟩
        obtain ⟨z, hz⟩ : ∃ z, z = decide (64 < xl.length) := ⟨_, rfl⟩
        rw [← hp, ← hq] at HNG
        rw [← hp] at HNX
        rw [← hq] at HIX
        rw [← hr] at HLX
        rw [← hu] at HIU HEN
        rw [← hz] at HFN ftz
        rw [← hp, ← hq] at hnf
        have HNF := Lib.hid hnf
        have HLR : Hid (lotsOk xl = r) := Lib.hid hr.symm
        clear hp hq hr hu hz hbp hcp hbn hcn hst hx hfx hlx hfs hkt hnf hown hfa hea hla htw hws HNF' d1 d0
        cases p
        · have hpc : PC = 1 := by rw [HPR.out, partR_one (partArg_num (by rw [HNF.out]; rfl))]
          subst hpc
          have HQ : Hid (PH = h) := Lib.hid (HPH.out (by decide))
          go_wp2_with fail
          refine Any.region_lit (fun
            | 0 => Any.val (.slice (some ⟨bn, offn, none⟩) ns.length cn)
            | 1 => Any.val (.int .i64 k)
            | 2 => Any.val (.pointer (some ⟨bn, offn + k, none⟩))
            | 3 => Any.val (.string xs)
            | 4 => Any.val (.bool false)
            | 5 => Any.val (.bool true)
            | 6 => Any.val (.bool true)
            | 7 => Any.idle
            | 8 => Any.idle
            | 9 => Any.idle
            | 10 => Any.idle
            | 11 => Any.idle
            | 12 => Any.idle
            | 13 => Any.idle
            | 14 => Any.idle
            | 15 => Any.val (.bool true)
            | 16 => Any.val (.bool true)
            | 17 => Any.idle
            | 18 => Any.idle
            | 19 => Any.idle
            | 20 => Any.idle
            | 21 => Any.idle
            | 22 => Any.idle
            | 23 => Any.val (.bool true)
            | _ => Any.idle) (by kernel_rfl) (by kernel_rfl) (by kernel_rfl) ?_ ?_ ?_
          · intro i _
            match i with
            | 0 => exact Any.lasts_val _
            | 1 => exact Any.lasts_val _
            | 2 => exact Any.lasts_val _
            | 3 => exact Any.lasts_val _
            | 4 => exact Any.lasts_val _
            | 5 => exact Any.lasts_val _
            | 6 => exact Any.lasts_val _
            | 7 => exact Any.lasts_idle
            | 8 => exact Any.lasts_idle
            | 9 => exact Any.lasts_idle
            | 10 => exact Any.lasts_idle
            | 11 => exact Any.lasts_idle
            | 12 => exact Any.lasts_idle
            | 13 => exact Any.lasts_idle
            | 14 => exact Any.lasts_idle
            | 15 => exact Any.lasts_val _
            | 16 => exact Any.lasts_val _
            | 17 => exact Any.lasts_idle
            | 18 => exact Any.lasts_idle
            | 19 => exact Any.lasts_idle
            | 20 => exact Any.lasts_idle
            | 21 => exact Any.lasts_idle
            | 22 => exact Any.lasts_idle
            | 23 => exact Any.lasts_val _
            | n + 24 => exact Any.lasts_idle
          · refine ⟨?_, ?_, ?_, ?_, ?_, ?_, ?_, ?_, ?_, ?_, ?_, ?_, ?_, ?_, ?_, ?_, ?_, ?_, ?_, ?_, ?_, ?_, ?_, ?_, trivial⟩
            · refine Any.owes_plain rfl fun ρ wo hs' hb hc' => ?_
              have h3 : ρ (.tmp 3) = .slice (some ⟨bn, offn, none⟩) ns.length cn := hs'.old' 3 (by kernel_rfl)
              exact Any.ok_move (Any.post_val hb rfl h3)
            · refine Any.owes_plain rfl fun ρ wo hs' hb hc' => ?_
              have h16 : ρ (.tmp 16) = .int .i64 k := hs'.old' 16 (by kernel_rfl)
              exact Any.ok_move (Any.post_val hb rfl h16)
            · refine Any.owes_plain rfl fun ρ wo hs' hb hc' => ?_
              have h58 : ρ (.tmp 58) = .slice (some ⟨bn, offn, none⟩) ns.length cn := hs'.new' 58 0 (by kernel_rfl)
              have h59 : ρ (.tmp 59) = .int .i64 k := hs'.new' 59 1 (by kernel_rfl)
              go_simp
              exact Any.post_val hb rfl rfl
            · refine Any.owes_plain rfl fun ρ wo hs' hb hc' => ?_
              have h60 : ρ (.tmp 60) = .pointer (some ⟨bn, offn + k, none⟩) := hs'.new' 60 2 (by kernel_rfl)
              have y0 := ((below_undrew hb).cell (p := ⟨bn, offn + k, none⟩) HBN.out).trans HD1.out
              go_simp
              exact Any.post_val hb rfl rfl
            · refine Any.owes_plain rfl fun ρ wo hs' hb hc' => ?_
              have h61 : ρ (.tmp 61) = .string xs := hs'.new' 61 3 (by kernel_rfl)
              have hf := hs'.func 72
              go_simp
              exact (HNX.out wo (below_undrew hb)).mono fun e w' ⟨he, hb'⟩ => ⟨_, he, Any.post_vals hb rfl rfl hb'⟩
            · refine Any.owes_plain rfl fun ρ wo hs' hb hc' => ?_
              have h62 : ρ (.tmp 62) = .bool false := hs'.new' 62 4 (by kernel_rfl)
              go_simp
              exact Any.post_val hb rfl rfl
            · refine Any.owes_plain rfl fun ρ wo hs' hb hc' => ?_
              have h63 : ρ (.tmp 63) = .bool true := hs'.new' 63 5 (by kernel_rfl)
              go_simp
              exact Any.post_val hb rfl rfl
            · exact Any.owes_off rfl rfl (by kernel_rfl) rfl (by decide) rfl
            · exact Any.owes_off rfl rfl (by kernel_rfl) rfl (by decide) rfl
            · exact Any.owes_off rfl rfl (by kernel_rfl) rfl (by decide) rfl
            · exact Any.owes_off rfl rfl (by kernel_rfl) rfl (by decide) rfl
            · exact Any.owes_off rfl rfl (by kernel_rfl) rfl (by decide) rfl
            · exact Any.owes_off rfl rfl (by kernel_rfl) rfl (by decide) rfl
            · exact Any.owes_off rfl rfl (by kernel_rfl) rfl (by decide) rfl
            · exact Any.owes_off rfl rfl (by kernel_rfl) rfl (by decide) rfl
            · refine Any.owes_plain rfl fun ρ wo hs' hb hc' => ?_
              have h64 : ρ (.tmp 64) = .bool true := hs'.new' 64 6 (by kernel_rfl)
              go_simp
              exact Any.post_val hb rfl rfl
            · refine Any.owes_plain rfl fun ρ wo hs' hb hc' => ?_
              have h73 : ρ (.tmp 73) = .bool true := hs'.new' 73 15 (by kernel_rfl)
              go_simp
              exact Any.post_val hb rfl rfl
            · exact Any.owes_off rfl rfl (by kernel_rfl) rfl (by decide) rfl
            · exact Any.owes_off rfl rfl (by kernel_rfl) rfl (by decide) rfl
            · exact Any.owes_off rfl rfl (by kernel_rfl) rfl (by decide) rfl
            · exact Any.owes_off rfl rfl (by kernel_rfl) rfl (by decide) rfl
            · exact Any.owes_off rfl rfl (by kernel_rfl) rfl (by decide) rfl
            · exact Any.owes_off rfl rfl (by kernel_rfl) rfl (by decide) rfl
            · refine Any.owes_plain rfl fun ρ wo hs' hb hc' => ?_
              have h74 : ρ (.tmp 74) = .bool true := hs'.new' 74 16 (by kernel_rfl)
              go_simp
              exact Any.post_val hb rfl rfl
          intro vals w5 hb hk ha
          have h23 : vals 23 = .bool true := hk 23 (by kernel_rfl)
          have HB5 : Hid (Below wr.heap.size wr w5) := Lib.hid hb
          have HT5 := Lib.hid (HT.out.below HB5.out)
          clear hk ha hb
          simp only [Any.putAll]
          go_frame
          simp only [Nat.zero_add, Nat.reduceAdd]
          rw [h23]
          clear h23
          obtain ⟨c0, c1, c2⟩ := HT5.out.cells
          go_wp2_with (first
            | (refine wpList_store_row (P := Tryz.prog) rfl 29 (.tmp 10) (.tmp 82) rfl (w.heap.size + 1) #[.string nm, .slice aL M.length cL, .slice aU uL cU] rfl rfl _ _ HT5.out.br (by kernel_rfl) rfl house_one ?_)
            | fail)
          have HTR := Lib.hid (HT5.out.row (c := #[.string nm, .slice aL M.length cL, .slice aU uL cU]))
          ((try simp only [Exit.inBlock, Exit.then]); refine bodyPost_ret (results_row_tmp partRes _ _ (w.heap.size + 1) _ _ (0, 0) _ (.int .i64 1) rfl rfl HTR.out.br Tryz.underlying29 rfl (by kernel_rfl)) rfl ?_)
          exact HSAME.out _ _ _ _ HTR.out.bel (rfl) (HQ.out)
        cases q
        rotate_left
        · have hpc : PC = 1 := by rw [HPR.out, partR_one (partArg_num (by rw [HNF.out]; rfl))]
          subst hpc
          have HQ : Hid (PH = h) := Lib.hid (HPH.out (by decide))
          go_wp2_with fail
          refine Any.region_lit (fun
            | 0 => Any.val (.slice (some ⟨bn, offn, none⟩) ns.length cn)
            | 1 => Any.val (.int .i64 k)
            | 2 => Any.val (.pointer (some ⟨bn, offn + k, none⟩))
            | 3 => Any.val (.string xs)
            | 4 => Any.val (.bool true)
            | 5 => Any.val (.bool false)
            | 6 => Any.val (.bool false)
            | 7 => Any.val (.slice (some ⟨bn, offn, none⟩) ns.length cn)
            | 8 => Any.val (.int .i64 k)
            | 9 => Any.val (.slice (some ⟨bn, offn, none⟩) k cn)
            | 10 => Any.val (.slice (some ⟨bn, offn, none⟩) ns.length cn)
            | 11 => Any.val (.int .i64 k)
            | 12 => Any.val (.pointer (some ⟨bn, offn + k, none⟩))
            | 13 => Any.val (.string xs)
            | 14 => Any.val (.bool true)
            | 15 => Any.val (.bool true)
            | 16 => Any.val (.bool true)
            | 17 => Any.idle
            | 18 => Any.idle
            | 19 => Any.idle
            | 20 => Any.idle
            | 21 => Any.idle
            | 22 => Any.idle
            | 23 => Any.val (.bool true)
            | _ => Any.idle) (by kernel_rfl) (by kernel_rfl) (by kernel_rfl) ?_ ?_ ?_
          · intro i _
            match i with
            | 0 => exact Any.lasts_val _
            | 1 => exact Any.lasts_val _
            | 2 => exact Any.lasts_val _
            | 3 => exact Any.lasts_val _
            | 4 => exact Any.lasts_val _
            | 5 => exact Any.lasts_val _
            | 6 => exact Any.lasts_val _
            | 7 => exact Any.lasts_val _
            | 8 => exact Any.lasts_val _
            | 9 => exact Any.lasts_val _
            | 10 => exact Any.lasts_val _
            | 11 => exact Any.lasts_val _
            | 12 => exact Any.lasts_val _
            | 13 => exact Any.lasts_val _
            | 14 => exact Any.lasts_val _
            | 15 => exact Any.lasts_val _
            | 16 => exact Any.lasts_val _
            | 17 => exact Any.lasts_idle
            | 18 => exact Any.lasts_idle
            | 19 => exact Any.lasts_idle
            | 20 => exact Any.lasts_idle
            | 21 => exact Any.lasts_idle
            | 22 => exact Any.lasts_idle
            | 23 => exact Any.lasts_val _
            | n + 24 => exact Any.lasts_idle
          · refine ⟨?_, ?_, ?_, ?_, ?_, ?_, ?_, ?_, ?_, ?_, ?_, ?_, ?_, ?_, ?_, ?_, ?_, ?_, ?_, ?_, ?_, ?_, ?_, ?_, trivial⟩
            · refine Any.owes_plain rfl fun ρ wo hs' hb hc' => ?_
              have h3 : ρ (.tmp 3) = .slice (some ⟨bn, offn, none⟩) ns.length cn := hs'.old' 3 (by kernel_rfl)
              exact Any.ok_move (Any.post_val hb rfl h3)
            · refine Any.owes_plain rfl fun ρ wo hs' hb hc' => ?_
              have h16 : ρ (.tmp 16) = .int .i64 k := hs'.old' 16 (by kernel_rfl)
              exact Any.ok_move (Any.post_val hb rfl h16)
            · refine Any.owes_plain rfl fun ρ wo hs' hb hc' => ?_
              have h58 : ρ (.tmp 58) = .slice (some ⟨bn, offn, none⟩) ns.length cn := hs'.new' 58 0 (by kernel_rfl)
              have h59 : ρ (.tmp 59) = .int .i64 k := hs'.new' 59 1 (by kernel_rfl)
              go_simp
              exact Any.post_val hb rfl rfl
            · refine Any.owes_plain rfl fun ρ wo hs' hb hc' => ?_
              have h60 : ρ (.tmp 60) = .pointer (some ⟨bn, offn + k, none⟩) := hs'.new' 60 2 (by kernel_rfl)
              have y0 := ((below_undrew hb).cell (p := ⟨bn, offn + k, none⟩) HBN.out).trans HD1.out
              go_simp
              exact Any.post_val hb rfl rfl
            · refine Any.owes_plain rfl fun ρ wo hs' hb hc' => ?_
              have h61 : ρ (.tmp 61) = .string xs := hs'.new' 61 3 (by kernel_rfl)
              have hf := hs'.func 72
              go_simp
              exact (HNX.out wo (below_undrew hb)).mono fun e w' ⟨he, hb'⟩ => ⟨_, he, Any.post_vals hb rfl rfl hb'⟩
            · refine Any.owes_plain rfl fun ρ wo hs' hb hc' => ?_
              have h62 : ρ (.tmp 62) = .bool true := hs'.new' 62 4 (by kernel_rfl)
              go_simp
              exact Any.post_val hb rfl rfl
            · refine Any.owes_plain rfl fun ρ wo hs' hb hc' => ?_
              have h63 : ρ (.tmp 63) = .bool false := hs'.new' 63 5 (by kernel_rfl)
              go_simp
              exact Any.post_val hb rfl rfl
            · refine Any.owes_on rfl rfl (by kernel_rfl) rfl fun ρ wo hs' hb hc' => ?_
              have h3 : ρ (.tmp 3) = .slice (some ⟨bn, offn, none⟩) ns.length cn := hs'.old' 3 (by kernel_rfl)
              exact Any.ok_move (Any.post_val hb rfl h3)
            · refine Any.owes_on rfl rfl (by kernel_rfl) rfl fun ρ wo hs' hb hc' => ?_
              have h16 : ρ (.tmp 16) = .int .i64 k := hs'.old' 16 (by kernel_rfl)
              exact Any.ok_move (Any.post_val hb rfl h16)
            · refine Any.owes_on rfl rfl (by kernel_rfl) rfl fun ρ wo hs' hb hc' => ?_
              have h65 : ρ (.tmp 65) = .slice (some ⟨bn, offn, none⟩) ns.length cn := hs'.new' 65 7 (by kernel_rfl)
              have h66 : ρ (.tmp 66) = .int .i64 k := hs'.new' 66 8 (by kernel_rfl)
              have q9 := HSL9.out wo
              go_simp
              exact Any.post_val hb rfl rfl
            · refine Any.owes_on rfl rfl (by kernel_rfl) rfl fun ρ wo hs' hb hc' => ?_
              have h3 : ρ (.tmp 3) = .slice (some ⟨bn, offn, none⟩) ns.length cn := hs'.old' 3 (by kernel_rfl)
              exact Any.ok_move (Any.post_val hb rfl h3)
            · refine Any.owes_on rfl rfl (by kernel_rfl) rfl fun ρ wo hs' hb hc' => ?_
              have h16 : ρ (.tmp 16) = .int .i64 k := hs'.old' 16 (by kernel_rfl)
              exact Any.ok_move (Any.post_val hb rfl h16)
            · refine Any.owes_on rfl rfl (by kernel_rfl) rfl fun ρ wo hs' hb hc' => ?_
              have h68 : ρ (.tmp 68) = .slice (some ⟨bn, offn, none⟩) ns.length cn := hs'.new' 68 10 (by kernel_rfl)
              have h69 : ρ (.tmp 69) = .int .i64 k := hs'.new' 69 11 (by kernel_rfl)
              go_simp
              exact Any.post_val hb rfl rfl
            · refine Any.owes_on rfl rfl (by kernel_rfl) rfl fun ρ wo hs' hb hc' => ?_
              have h70 : ρ (.tmp 70) = .pointer (some ⟨bn, offn + k, none⟩) := hs'.new' 70 12 (by kernel_rfl)
              have y0 := ((below_undrew hb).cell (p := ⟨bn, offn + k, none⟩) HBN.out).trans HD1.out
              go_simp
              exact Any.post_val hb rfl rfl
            · refine Any.owes_on rfl rfl (by kernel_rfl) rfl fun ρ wo hs' hb hc' => ?_
              have h67 : ρ (.tmp 67) = .slice (some ⟨bn, offn, none⟩) k cn := hs'.new' 67 9 (by kernel_rfl)
              have h71 : ρ (.tmp 71) = .string xs := hs'.new' 71 13 (by kernel_rfl)
              have hf := hs'.func 74
              go_simp
              exact (HIX.out wo (below_undrew hb)).mono fun e w' ⟨he, hb'⟩ => ⟨_, he, Any.post_vals hb rfl rfl hb'⟩
            · refine Any.owes_plain rfl fun ρ wo hs' hb hc' => ?_
              have h64 : ρ (.tmp 64) = .bool false := hs'.new' 64 6 (by kernel_rfl)
              have h72 : ρ (.tmp 72) = .bool true := hs'.new' 72 14 (by kernel_rfl)
              go_simp
              exact Any.post_val hb rfl rfl
            · refine Any.owes_plain rfl fun ρ wo hs' hb hc' => ?_
              have h73 : ρ (.tmp 73) = .bool true := hs'.new' 73 15 (by kernel_rfl)
              go_simp
              exact Any.post_val hb rfl rfl
            · exact Any.owes_off rfl rfl (by kernel_rfl) rfl (by decide) rfl
            · exact Any.owes_off rfl rfl (by kernel_rfl) rfl (by decide) rfl
            · exact Any.owes_off rfl rfl (by kernel_rfl) rfl (by decide) rfl
            · exact Any.owes_off rfl rfl (by kernel_rfl) rfl (by decide) rfl
            · exact Any.owes_off rfl rfl (by kernel_rfl) rfl (by decide) rfl
            · exact Any.owes_off rfl rfl (by kernel_rfl) rfl (by decide) rfl
            · refine Any.owes_plain rfl fun ρ wo hs' hb hc' => ?_
              have h74 : ρ (.tmp 74) = .bool true := hs'.new' 74 16 (by kernel_rfl)
              go_simp
              exact Any.post_val hb rfl rfl
          intro vals w5 hb hk ha
          have h23 : vals 23 = .bool true := hk 23 (by kernel_rfl)
          have HB5 : Hid (Below wr.heap.size wr w5) := Lib.hid hb
          have HT5 := Lib.hid (HT.out.below HB5.out)
          clear hk ha hb
          simp only [Any.putAll]
          go_frame
          simp only [Nat.zero_add, Nat.reduceAdd]
          rw [h23]
          clear h23
          obtain ⟨c0, c1, c2⟩ := HT5.out.cells
          go_wp2_with (first
            | (refine wpList_store_row (P := Tryz.prog) rfl 29 (.tmp 10) (.tmp 82) rfl (w.heap.size + 1) #[.string nm, .slice aL M.length cL, .slice aU uL cU] rfl rfl _ _ HT5.out.br (by kernel_rfl) rfl house_one ?_)
            | fail)
          have HTR := Lib.hid (HT5.out.row (c := #[.string nm, .slice aL M.length cL, .slice aU uL cU]))
          ((try simp only [Exit.inBlock, Exit.then]); refine bodyPost_ret (results_row_tmp partRes _ _ (w.heap.size + 1) _ _ (0, 0) _ (.int .i64 1) rfl rfl HTR.out.br Tryz.underlying29 rfl (by kernel_rfl)) rfl ?_)
          exact HSAME.out _ _ _ _ HTR.out.bel (rfl) (HQ.out)
        cases r
        · have hpc : PC = 1 := by rw [HPR.out, partR_one (partArg_lot HMEM.out HLR.out)]
          subst hpc
          have HQ : Hid (PH = h) := Lib.hid (HPH.out (by decide))
          go_wp2_with fail
          refine Any.region_lit (fun
            | 0 => Any.val (.slice (some ⟨bn, offn, none⟩) ns.length cn)
            | 1 => Any.val (.int .i64 k)
            | 2 => Any.val (.pointer (some ⟨bn, offn + k, none⟩))
            | 3 => Any.val (.string xs)
            | 4 => Any.val (.bool true)
            | 5 => Any.val (.bool false)
            | 6 => Any.val (.bool false)
            | 7 => Any.val (.slice (some ⟨bn, offn, none⟩) ns.length cn)
            | 8 => Any.val (.int .i64 k)
            | 9 => Any.val (.slice (some ⟨bn, offn, none⟩) k cn)
            | 10 => Any.val (.slice (some ⟨bn, offn, none⟩) ns.length cn)
            | 11 => Any.val (.int .i64 k)
            | 12 => Any.val (.pointer (some ⟨bn, offn + k, none⟩))
            | 13 => Any.val (.string xs)
            | 14 => Any.val (.bool false)
            | 15 => Any.val (.bool false)
            | 16 => Any.val (.bool false)
            | 17 => Any.val (.slice (some ⟨bp, offp, none⟩) L.length cp)
            | 18 => Any.val (.int .i64 k)
            | 19 => Any.val (.pointer (some ⟨bp, offp + k, none⟩))
            | 20 => Any.val (.slice ax xl.length cx)
            | 21 => Any.val (.bool false)
            | 22 => Any.val (.bool true)
            | 23 => Any.val (.bool true)
            | _ => Any.idle) (by kernel_rfl) (by kernel_rfl) (by kernel_rfl) ?_ ?_ ?_
          · intro i _
            match i with
            | 0 => exact Any.lasts_val _
            | 1 => exact Any.lasts_val _
            | 2 => exact Any.lasts_val _
            | 3 => exact Any.lasts_val _
            | 4 => exact Any.lasts_val _
            | 5 => exact Any.lasts_val _
            | 6 => exact Any.lasts_val _
            | 7 => exact Any.lasts_val _
            | 8 => exact Any.lasts_val _
            | 9 => exact Any.lasts_val _
            | 10 => exact Any.lasts_val _
            | 11 => exact Any.lasts_val _
            | 12 => exact Any.lasts_val _
            | 13 => exact Any.lasts_val _
            | 14 => exact Any.lasts_val _
            | 15 => exact Any.lasts_val _
            | 16 => exact Any.lasts_val _
            | 17 => exact Any.lasts_val _
            | 18 => exact Any.lasts_val _
            | 19 => exact Any.lasts_val _
            | 20 => exact Any.lasts_val _
            | 21 => exact Any.lasts_val _
            | 22 => exact Any.lasts_val _
            | 23 => exact Any.lasts_val _
            | n + 24 => exact Any.lasts_idle
          · refine ⟨?_, ?_, ?_, ?_, ?_, ?_, ?_, ?_, ?_, ?_, ?_, ?_, ?_, ?_, ?_, ?_, ?_, ?_, ?_, ?_, ?_, ?_, ?_, ?_, trivial⟩
            · refine Any.owes_plain rfl fun ρ wo hs' hb hc' => ?_
              have h3 : ρ (.tmp 3) = .slice (some ⟨bn, offn, none⟩) ns.length cn := hs'.old' 3 (by kernel_rfl)
              exact Any.ok_move (Any.post_val hb rfl h3)
            · refine Any.owes_plain rfl fun ρ wo hs' hb hc' => ?_
              have h16 : ρ (.tmp 16) = .int .i64 k := hs'.old' 16 (by kernel_rfl)
              exact Any.ok_move (Any.post_val hb rfl h16)
            · refine Any.owes_plain rfl fun ρ wo hs' hb hc' => ?_
              have h58 : ρ (.tmp 58) = .slice (some ⟨bn, offn, none⟩) ns.length cn := hs'.new' 58 0 (by kernel_rfl)
              have h59 : ρ (.tmp 59) = .int .i64 k := hs'.new' 59 1 (by kernel_rfl)
              go_simp
              exact Any.post_val hb rfl rfl
            · refine Any.owes_plain rfl fun ρ wo hs' hb hc' => ?_
              have h60 : ρ (.tmp 60) = .pointer (some ⟨bn, offn + k, none⟩) := hs'.new' 60 2 (by kernel_rfl)
              have y0 := ((below_undrew hb).cell (p := ⟨bn, offn + k, none⟩) HBN.out).trans HD1.out
              go_simp
              exact Any.post_val hb rfl rfl
            · refine Any.owes_plain rfl fun ρ wo hs' hb hc' => ?_
              have h61 : ρ (.tmp 61) = .string xs := hs'.new' 61 3 (by kernel_rfl)
              have hf := hs'.func 72
              go_simp
              exact (HNX.out wo (below_undrew hb)).mono fun e w' ⟨he, hb'⟩ => ⟨_, he, Any.post_vals hb rfl rfl hb'⟩
            · refine Any.owes_plain rfl fun ρ wo hs' hb hc' => ?_
              have h62 : ρ (.tmp 62) = .bool true := hs'.new' 62 4 (by kernel_rfl)
              go_simp
              exact Any.post_val hb rfl rfl
            · refine Any.owes_plain rfl fun ρ wo hs' hb hc' => ?_
              have h63 : ρ (.tmp 63) = .bool false := hs'.new' 63 5 (by kernel_rfl)
              go_simp
              exact Any.post_val hb rfl rfl
            · refine Any.owes_on rfl rfl (by kernel_rfl) rfl fun ρ wo hs' hb hc' => ?_
              have h3 : ρ (.tmp 3) = .slice (some ⟨bn, offn, none⟩) ns.length cn := hs'.old' 3 (by kernel_rfl)
              exact Any.ok_move (Any.post_val hb rfl h3)
            · refine Any.owes_on rfl rfl (by kernel_rfl) rfl fun ρ wo hs' hb hc' => ?_
              have h16 : ρ (.tmp 16) = .int .i64 k := hs'.old' 16 (by kernel_rfl)
              exact Any.ok_move (Any.post_val hb rfl h16)
            · refine Any.owes_on rfl rfl (by kernel_rfl) rfl fun ρ wo hs' hb hc' => ?_
              have h65 : ρ (.tmp 65) = .slice (some ⟨bn, offn, none⟩) ns.length cn := hs'.new' 65 7 (by kernel_rfl)
              have h66 : ρ (.tmp 66) = .int .i64 k := hs'.new' 66 8 (by kernel_rfl)
              have q9 := HSL9.out wo
              go_simp
              exact Any.post_val hb rfl rfl
            · refine Any.owes_on rfl rfl (by kernel_rfl) rfl fun ρ wo hs' hb hc' => ?_
              have h3 : ρ (.tmp 3) = .slice (some ⟨bn, offn, none⟩) ns.length cn := hs'.old' 3 (by kernel_rfl)
              exact Any.ok_move (Any.post_val hb rfl h3)
            · refine Any.owes_on rfl rfl (by kernel_rfl) rfl fun ρ wo hs' hb hc' => ?_
              have h16 : ρ (.tmp 16) = .int .i64 k := hs'.old' 16 (by kernel_rfl)
              exact Any.ok_move (Any.post_val hb rfl h16)
            · refine Any.owes_on rfl rfl (by kernel_rfl) rfl fun ρ wo hs' hb hc' => ?_
              have h68 : ρ (.tmp 68) = .slice (some ⟨bn, offn, none⟩) ns.length cn := hs'.new' 68 10 (by kernel_rfl)
              have h69 : ρ (.tmp 69) = .int .i64 k := hs'.new' 69 11 (by kernel_rfl)
              go_simp
              exact Any.post_val hb rfl rfl
            · refine Any.owes_on rfl rfl (by kernel_rfl) rfl fun ρ wo hs' hb hc' => ?_
              have h70 : ρ (.tmp 70) = .pointer (some ⟨bn, offn + k, none⟩) := hs'.new' 70 12 (by kernel_rfl)
              have y0 := ((below_undrew hb).cell (p := ⟨bn, offn + k, none⟩) HBN.out).trans HD1.out
              go_simp
              exact Any.post_val hb rfl rfl
            · refine Any.owes_on rfl rfl (by kernel_rfl) rfl fun ρ wo hs' hb hc' => ?_
              have h67 : ρ (.tmp 67) = .slice (some ⟨bn, offn, none⟩) k cn := hs'.new' 67 9 (by kernel_rfl)
              have h71 : ρ (.tmp 71) = .string xs := hs'.new' 71 13 (by kernel_rfl)
              have hf := hs'.func 74
              go_simp
              exact (HIX.out wo (below_undrew hb)).mono fun e w' ⟨he, hb'⟩ => ⟨_, he, Any.post_vals hb rfl rfl hb'⟩
            · refine Any.owes_plain rfl fun ρ wo hs' hb hc' => ?_
              have h64 : ρ (.tmp 64) = .bool false := hs'.new' 64 6 (by kernel_rfl)
              have h72 : ρ (.tmp 72) = .bool false := hs'.new' 72 14 (by kernel_rfl)
              go_simp
              exact Any.post_val hb rfl rfl
            · refine Any.owes_plain rfl fun ρ wo hs' hb hc' => ?_
              have h73 : ρ (.tmp 73) = .bool false := hs'.new' 73 15 (by kernel_rfl)
              go_simp
              exact Any.post_val hb rfl rfl
            · refine Any.owes_on rfl rfl (by kernel_rfl) rfl fun ρ wo hs' hb hc' => ?_
              have h4 : ρ (.tmp 4) = .slice (some ⟨bp, offp, none⟩) L.length cp := hs'.old' 4 (by kernel_rfl)
              exact Any.ok_move (Any.post_val hb rfl h4)
            · refine Any.owes_on rfl rfl (by kernel_rfl) rfl fun ρ wo hs' hb hc' => ?_
              have h16 : ρ (.tmp 16) = .int .i64 k := hs'.old' 16 (by kernel_rfl)
              exact Any.ok_move (Any.post_val hb rfl h16)
            · refine Any.owes_on rfl rfl (by kernel_rfl) rfl fun ρ wo hs' hb hc' => ?_
              have h75 : ρ (.tmp 75) = .slice (some ⟨bp, offp, none⟩) L.length cp := hs'.new' 75 17 (by kernel_rfl)
              have h76 : ρ (.tmp 76) = .int .i64 k := hs'.new' 76 18 (by kernel_rfl)
              go_simp
              exact Any.post_val hb rfl rfl
            · refine Any.owes_on rfl rfl (by kernel_rfl) rfl fun ρ wo hs' hb hc' => ?_
              have h77 : ρ (.tmp 77) = .pointer (some ⟨bp, offp + k, none⟩) := hs'.new' 77 19 (by kernel_rfl)
              have y0 := ((below_undrew hb).cell (p := ⟨bp, offp + k, none⟩) HBP.out).trans HD0.out
              go_simp
              exact Any.post_val hb rfl rfl
            · refine Any.owes_on rfl rfl (by kernel_rfl) rfl fun ρ wo hs' hb hc' => ?_
              have h78 : ρ (.tmp 78) = .slice ax xl.length cx := hs'.new' 78 20 (by kernel_rfl)
              have hf := hs'.func 73
              go_simp
              exact (HLX.out wo (below_undrew hb)).mono fun e w' ⟨he, hb'⟩ => ⟨_, he, Any.post_vals hb rfl rfl hb'⟩
            · refine Any.owes_on rfl rfl (by kernel_rfl) rfl fun ρ wo hs' hb hc' => ?_
              have h79 : ρ (.tmp 79) = .bool false := hs'.new' 79 21 (by kernel_rfl)
              go_simp
              exact Any.post_val hb rfl rfl
            · refine Any.owes_plain rfl fun ρ wo hs' hb hc' => ?_
              have h74 : ρ (.tmp 74) = .bool false := hs'.new' 74 16 (by kernel_rfl)
              have h80 : ρ (.tmp 80) = .bool true := hs'.new' 80 22 (by kernel_rfl)
              go_simp
              exact Any.post_val hb rfl rfl
          intro vals w5 hb hk ha
          have h23 : vals 23 = .bool true := hk 23 (by kernel_rfl)
          have HB5 : Hid (Below wr.heap.size wr w5) := Lib.hid hb
          have HT5 := Lib.hid (HT.out.below HB5.out)
          clear hk ha hb
          simp only [Any.putAll]
          go_frame
          simp only [Nat.zero_add, Nat.reduceAdd]
          rw [h23]
          clear h23
          obtain ⟨c0, c1, c2⟩ := HT5.out.cells
          go_wp2_with (first
            | (refine wpList_store_row (P := Tryz.prog) rfl 29 (.tmp 10) (.tmp 82) rfl (w.heap.size + 1) #[.string nm, .slice aL M.length cL, .slice aU uL cU] rfl rfl _ _ HT5.out.br (by kernel_rfl) rfl house_one ?_)
            | fail)
          have HTR := Lib.hid (HT5.out.row (c := #[.string nm, .slice aL M.length cL, .slice aU uL cU]))
          ((try simp only [Exit.inBlock, Exit.then]); refine bodyPost_ret (results_row_tmp partRes _ _ (w.heap.size + 1) _ _ (0, 0) _ (.int .i64 1) rfl rfl HTR.out.br Tryz.underlying29 rfl (by kernel_rfl)) rfl ?_)
          exact HSAME.out _ _ _ _ HTR.out.bel (rfl) (HQ.out)
        have HNK2 := Lib.hid (HNG.out rfl rfl)
        clear HNG
        have HLK : Hid (∀ q ∈ L.take (k + 1), lotsOk q.2 = true) := Lib.hid (by
          rw [HLT.out]
          intro q hq
          rcases List.mem_append.1 hq with e | e
          · exact HLA.out q e
          · obtain rfl := List.mem_singleton.1 e
            exact HLR.out)
        go_wp2_with fail
        refine Any.region_lit (fun
          | 0 => Any.val (.slice (some ⟨bn, offn, none⟩) ns.length cn)
          | 1 => Any.val (.int .i64 k)
          | 2 => Any.val (.pointer (some ⟨bn, offn + k, none⟩))
          | 3 => Any.val (.string xs)
          | 4 => Any.val (.bool true)
          | 5 => Any.val (.bool false)
          | 6 => Any.val (.bool false)
          | 7 => Any.val (.slice (some ⟨bn, offn, none⟩) ns.length cn)
          | 8 => Any.val (.int .i64 k)
          | 9 => Any.val (.slice (some ⟨bn, offn, none⟩) k cn)
          | 10 => Any.val (.slice (some ⟨bn, offn, none⟩) ns.length cn)
          | 11 => Any.val (.int .i64 k)
          | 12 => Any.val (.pointer (some ⟨bn, offn + k, none⟩))
          | 13 => Any.val (.string xs)
          | 14 => Any.val (.bool false)
          | 15 => Any.val (.bool false)
          | 16 => Any.val (.bool false)
          | 17 => Any.val (.slice (some ⟨bp, offp, none⟩) L.length cp)
          | 18 => Any.val (.int .i64 k)
          | 19 => Any.val (.pointer (some ⟨bp, offp + k, none⟩))
          | 20 => Any.val (.slice ax xl.length cx)
          | 21 => Any.val (.bool true)
          | 22 => Any.val (.bool false)
          | 23 => Any.val (.bool false)
          | _ => Any.idle) (by kernel_rfl) (by kernel_rfl) (by kernel_rfl) ?_ ?_ ?_
        · intro i _
          match i with
          | 0 => exact Any.lasts_val _
          | 1 => exact Any.lasts_val _
          | 2 => exact Any.lasts_val _
          | 3 => exact Any.lasts_val _
          | 4 => exact Any.lasts_val _
          | 5 => exact Any.lasts_val _
          | 6 => exact Any.lasts_val _
          | 7 => exact Any.lasts_val _
          | 8 => exact Any.lasts_val _
          | 9 => exact Any.lasts_val _
          | 10 => exact Any.lasts_val _
          | 11 => exact Any.lasts_val _
          | 12 => exact Any.lasts_val _
          | 13 => exact Any.lasts_val _
          | 14 => exact Any.lasts_val _
          | 15 => exact Any.lasts_val _
          | 16 => exact Any.lasts_val _
          | 17 => exact Any.lasts_val _
          | 18 => exact Any.lasts_val _
          | 19 => exact Any.lasts_val _
          | 20 => exact Any.lasts_val _
          | 21 => exact Any.lasts_val _
          | 22 => exact Any.lasts_val _
          | 23 => exact Any.lasts_val _
          | n + 24 => exact Any.lasts_idle
        · refine ⟨?_, ?_, ?_, ?_, ?_, ?_, ?_, ?_, ?_, ?_, ?_, ?_, ?_, ?_, ?_, ?_, ?_, ?_, ?_, ?_, ?_, ?_, ?_, ?_, trivial⟩
          · refine Any.owes_plain rfl fun ρ wo hs' hb hc' => ?_
            have h3 : ρ (.tmp 3) = .slice (some ⟨bn, offn, none⟩) ns.length cn := hs'.old' 3 (by kernel_rfl)
            exact Any.ok_move (Any.post_val hb rfl h3)
          · refine Any.owes_plain rfl fun ρ wo hs' hb hc' => ?_
            have h16 : ρ (.tmp 16) = .int .i64 k := hs'.old' 16 (by kernel_rfl)
            exact Any.ok_move (Any.post_val hb rfl h16)
          · refine Any.owes_plain rfl fun ρ wo hs' hb hc' => ?_
            have h58 : ρ (.tmp 58) = .slice (some ⟨bn, offn, none⟩) ns.length cn := hs'.new' 58 0 (by kernel_rfl)
            have h59 : ρ (.tmp 59) = .int .i64 k := hs'.new' 59 1 (by kernel_rfl)
            go_simp
            exact Any.post_val hb rfl rfl
          · refine Any.owes_plain rfl fun ρ wo hs' hb hc' => ?_
            have h60 : ρ (.tmp 60) = .pointer (some ⟨bn, offn + k, none⟩) := hs'.new' 60 2 (by kernel_rfl)
            have y0 := ((below_undrew hb).cell (p := ⟨bn, offn + k, none⟩) HBN.out).trans HD1.out
            go_simp
            exact Any.post_val hb rfl rfl
          · refine Any.owes_plain rfl fun ρ wo hs' hb hc' => ?_
            have h61 : ρ (.tmp 61) = .string xs := hs'.new' 61 3 (by kernel_rfl)
            have hf := hs'.func 72
            go_simp
            exact (HNX.out wo (below_undrew hb)).mono fun e w' ⟨he, hb'⟩ => ⟨_, he, Any.post_vals hb rfl rfl hb'⟩
          · refine Any.owes_plain rfl fun ρ wo hs' hb hc' => ?_
            have h62 : ρ (.tmp 62) = .bool true := hs'.new' 62 4 (by kernel_rfl)
            go_simp
            exact Any.post_val hb rfl rfl
          · refine Any.owes_plain rfl fun ρ wo hs' hb hc' => ?_
            have h63 : ρ (.tmp 63) = .bool false := hs'.new' 63 5 (by kernel_rfl)
            go_simp
            exact Any.post_val hb rfl rfl
          · refine Any.owes_on rfl rfl (by kernel_rfl) rfl fun ρ wo hs' hb hc' => ?_
            have h3 : ρ (.tmp 3) = .slice (some ⟨bn, offn, none⟩) ns.length cn := hs'.old' 3 (by kernel_rfl)
            exact Any.ok_move (Any.post_val hb rfl h3)
          · refine Any.owes_on rfl rfl (by kernel_rfl) rfl fun ρ wo hs' hb hc' => ?_
            have h16 : ρ (.tmp 16) = .int .i64 k := hs'.old' 16 (by kernel_rfl)
            exact Any.ok_move (Any.post_val hb rfl h16)
          · refine Any.owes_on rfl rfl (by kernel_rfl) rfl fun ρ wo hs' hb hc' => ?_
            have h65 : ρ (.tmp 65) = .slice (some ⟨bn, offn, none⟩) ns.length cn := hs'.new' 65 7 (by kernel_rfl)
            have h66 : ρ (.tmp 66) = .int .i64 k := hs'.new' 66 8 (by kernel_rfl)
            have q9 := HSL9.out wo
            go_simp
            exact Any.post_val hb rfl rfl
          · refine Any.owes_on rfl rfl (by kernel_rfl) rfl fun ρ wo hs' hb hc' => ?_
            have h3 : ρ (.tmp 3) = .slice (some ⟨bn, offn, none⟩) ns.length cn := hs'.old' 3 (by kernel_rfl)
            exact Any.ok_move (Any.post_val hb rfl h3)
          · refine Any.owes_on rfl rfl (by kernel_rfl) rfl fun ρ wo hs' hb hc' => ?_
            have h16 : ρ (.tmp 16) = .int .i64 k := hs'.old' 16 (by kernel_rfl)
            exact Any.ok_move (Any.post_val hb rfl h16)
          · refine Any.owes_on rfl rfl (by kernel_rfl) rfl fun ρ wo hs' hb hc' => ?_
            have h68 : ρ (.tmp 68) = .slice (some ⟨bn, offn, none⟩) ns.length cn := hs'.new' 68 10 (by kernel_rfl)
            have h69 : ρ (.tmp 69) = .int .i64 k := hs'.new' 69 11 (by kernel_rfl)
            go_simp
            exact Any.post_val hb rfl rfl
          · refine Any.owes_on rfl rfl (by kernel_rfl) rfl fun ρ wo hs' hb hc' => ?_
            have h70 : ρ (.tmp 70) = .pointer (some ⟨bn, offn + k, none⟩) := hs'.new' 70 12 (by kernel_rfl)
            have y0 := ((below_undrew hb).cell (p := ⟨bn, offn + k, none⟩) HBN.out).trans HD1.out
            go_simp
            exact Any.post_val hb rfl rfl
          · refine Any.owes_on rfl rfl (by kernel_rfl) rfl fun ρ wo hs' hb hc' => ?_
            have h67 : ρ (.tmp 67) = .slice (some ⟨bn, offn, none⟩) k cn := hs'.new' 67 9 (by kernel_rfl)
            have h71 : ρ (.tmp 71) = .string xs := hs'.new' 71 13 (by kernel_rfl)
            have hf := hs'.func 74
            go_simp
            exact (HIX.out wo (below_undrew hb)).mono fun e w' ⟨he, hb'⟩ => ⟨_, he, Any.post_vals hb rfl rfl hb'⟩
          · refine Any.owes_plain rfl fun ρ wo hs' hb hc' => ?_
            have h64 : ρ (.tmp 64) = .bool false := hs'.new' 64 6 (by kernel_rfl)
            have h72 : ρ (.tmp 72) = .bool false := hs'.new' 72 14 (by kernel_rfl)
            go_simp
            exact Any.post_val hb rfl rfl
          · refine Any.owes_plain rfl fun ρ wo hs' hb hc' => ?_
            have h73 : ρ (.tmp 73) = .bool false := hs'.new' 73 15 (by kernel_rfl)
            go_simp
            exact Any.post_val hb rfl rfl
          · refine Any.owes_on rfl rfl (by kernel_rfl) rfl fun ρ wo hs' hb hc' => ?_
            have h4 : ρ (.tmp 4) = .slice (some ⟨bp, offp, none⟩) L.length cp := hs'.old' 4 (by kernel_rfl)
            exact Any.ok_move (Any.post_val hb rfl h4)
          · refine Any.owes_on rfl rfl (by kernel_rfl) rfl fun ρ wo hs' hb hc' => ?_
            have h16 : ρ (.tmp 16) = .int .i64 k := hs'.old' 16 (by kernel_rfl)
            exact Any.ok_move (Any.post_val hb rfl h16)
          · refine Any.owes_on rfl rfl (by kernel_rfl) rfl fun ρ wo hs' hb hc' => ?_
            have h75 : ρ (.tmp 75) = .slice (some ⟨bp, offp, none⟩) L.length cp := hs'.new' 75 17 (by kernel_rfl)
            have h76 : ρ (.tmp 76) = .int .i64 k := hs'.new' 76 18 (by kernel_rfl)
            go_simp
            exact Any.post_val hb rfl rfl
          · refine Any.owes_on rfl rfl (by kernel_rfl) rfl fun ρ wo hs' hb hc' => ?_
            have h77 : ρ (.tmp 77) = .pointer (some ⟨bp, offp + k, none⟩) := hs'.new' 77 19 (by kernel_rfl)
            have y0 := ((below_undrew hb).cell (p := ⟨bp, offp + k, none⟩) HBP.out).trans HD0.out
            go_simp
            exact Any.post_val hb rfl rfl
          · refine Any.owes_on rfl rfl (by kernel_rfl) rfl fun ρ wo hs' hb hc' => ?_
            have h78 : ρ (.tmp 78) = .slice ax xl.length cx := hs'.new' 78 20 (by kernel_rfl)
            have hf := hs'.func 73
            go_simp
            exact (HLX.out wo (below_undrew hb)).mono fun e w' ⟨he, hb'⟩ => ⟨_, he, Any.post_vals hb rfl rfl hb'⟩
          · refine Any.owes_on rfl rfl (by kernel_rfl) rfl fun ρ wo hs' hb hc' => ?_
            have h79 : ρ (.tmp 79) = .bool true := hs'.new' 79 21 (by kernel_rfl)
            go_simp
            exact Any.post_val hb rfl rfl
          · refine Any.owes_plain rfl fun ρ wo hs' hb hc' => ?_
            have h74 : ρ (.tmp 74) = .bool false := hs'.new' 74 16 (by kernel_rfl)
            have h80 : ρ (.tmp 80) = .bool false := hs'.new' 80 22 (by kernel_rfl)
            go_simp
            exact Any.post_val hb rfl rfl
        intro vals w5 hb hk ha
        have h23 : vals 23 = .bool false := hk 23 (by kernel_rfl)
        have HB5 : Hid (Below wr.heap.size wr w5) := Lib.hid hb
        have HT5 := Lib.hid (HT.out.below HB5.out)
        clear hk ha hb
        simp only [Any.putAll]
        go_frame
        simp only [Nat.zero_add, Nat.reduceAdd]
        rw [h23]
        clear h23
        have HUX := Lib.hid (fun W (hb : Below w5.heap.size w5 W) => HIU.out W (HB5.out.trans (hb.mono HB5.out.size)))
        cases f
        · cases ex
          · have HFF : Hid (z = (F0 || (npSnd (L.take (k + 1))).any fun p => decide (64 < p.length))) := Lib.hid (by rw [HFN.out, ← Bool.or_assoc, ← HFA.out]; rfl)
            have HEE : Hid (u = (ns.take (k + 1)).any fun n => memB n h.used) := Lib.hid (by rw [HEN.out, ← HEA.out]; rfl)
            have y9 := (HB5.out.cell (p := ⟨bp, offp + k, none⟩) HBP.out).trans HD0.out
            go_wp2_with fail
            refine Any.region_lit (fun
              | 0 => Any.val (.bool false)
              | 1 => Any.val (.bool false)
              | 2 => Any.val (.pointer (some ⟨w.heap.size, 2, none⟩))
              | 3 => Any.val (.slice aU uL cU)
              | 4 => Any.val (.slice (some ⟨bn, offn, none⟩) ns.length cn)
              | 5 => Any.val (.int .i64 k)
              | 6 => Any.val (.pointer (some ⟨bn, offn + k, none⟩))
              | 7 => Any.val (.string xs)
              | 8 => Any.val (.bool u)
              | 9 => Any.val (.bool u)
              | 10 => Any.val (.bool u)
              | _ => Any.idle) (by kernel_rfl) (by kernel_rfl) (by kernel_rfl) ?_ ?_ ?_
            · intro i _
              match i with
              | 0 => exact Any.lasts_val _
              | 1 => exact Any.lasts_val _
              | 2 => exact Any.lasts_val _
              | 3 => exact Any.lasts_val _
              | 4 => exact Any.lasts_val _
              | 5 => exact Any.lasts_val _
              | 6 => exact Any.lasts_val _
              | 7 => exact Any.lasts_val _
              | 8 => exact Any.lasts_val _
              | 9 => exact Any.lasts_val _
              | 10 => exact Any.lasts_val _
              | n + 11 => exact Any.lasts_idle
            · refine ⟨?_, ?_, ?_, ?_, ?_, ?_, ?_, ?_, ?_, ?_, ?_, trivial⟩
              · refine Any.owes_plain rfl fun ρ wo hs' hb hc' => ?_
                have h14 : ρ (.tmp 14) = .bool false := hs'.old' 14 (by kernel_rfl)
                exact Any.ok_move (Any.post_val hb rfl h14)
              · refine Any.owes_plain rfl fun ρ wo hs' hb hc' => ?_
                have h92 : ρ (.tmp 92) = .bool false := hs'.new' 92 0 (by kernel_rfl)
                exact Any.ok_move (Any.post_val hb rfl h92)
              · refine Any.owes_on rfl rfl (by kernel_rfl) rfl fun ρ wo hs' hb hc' => ?_
                have h5 : ρ (.tmp 5) = .pointer (some ⟨w.heap.size, 0, none⟩) := hs'.old' 5 (by kernel_rfl)
                go_simp
                exact Any.post_val hb rfl rfl
              · refine Any.owes_on rfl rfl (by kernel_rfl) rfl fun ρ wo hs' hb hc' => ?_
                have h94 : ρ (.tmp 94) = .pointer (some ⟨w.heap.size, 2, none⟩) := hs'.new' 94 2 (by kernel_rfl)
                obtain ⟨c0, c1, c2⟩ := cells3_blk (blk (below_undrew hb) (lt_blk HT5.out.bx) HT5.out.bx)
                go_simp
                exact Any.post_val hb rfl rfl
              · refine Any.owes_on rfl rfl (by kernel_rfl) rfl fun ρ wo hs' hb hc' => ?_
                have h3 : ρ (.tmp 3) = .slice (some ⟨bn, offn, none⟩) ns.length cn := hs'.old' 3 (by kernel_rfl)
                exact Any.ok_move (Any.post_val hb rfl h3)
              · refine Any.owes_on rfl rfl (by kernel_rfl) rfl fun ρ wo hs' hb hc' => ?_
                have h16 : ρ (.tmp 16) = .int .i64 k := hs'.old' 16 (by kernel_rfl)
                exact Any.ok_move (Any.post_val hb rfl h16)
              · refine Any.owes_on rfl rfl (by kernel_rfl) rfl fun ρ wo hs' hb hc' => ?_
                have h96 : ρ (.tmp 96) = .slice (some ⟨bn, offn, none⟩) ns.length cn := hs'.new' 96 4 (by kernel_rfl)
                have h97 : ρ (.tmp 97) = .int .i64 k := hs'.new' 97 5 (by kernel_rfl)
                go_simp
                exact Any.post_val hb rfl rfl
              · refine Any.owes_on rfl rfl (by kernel_rfl) rfl fun ρ wo hs' hb hc' => ?_
                have h98 : ρ (.tmp 98) = .pointer (some ⟨bn, offn + k, none⟩) := hs'.new' 98 6 (by kernel_rfl)
                have y0 := (HB5.out.trans ((below_undrew hb).mono HB5.out.size)).cell (p := ⟨bn, offn + k, none⟩) HBN.out |>.trans HD1.out
                go_simp
                exact Any.post_val hb rfl rfl
              · refine Any.owes_on rfl rfl (by kernel_rfl) rfl fun ρ wo hs' hb hc' => ?_
                have h95 : ρ (.tmp 95) = .slice aU uL cU := hs'.new' 95 3 (by kernel_rfl)
                have h99 : ρ (.tmp 99) = .string xs := hs'.new' 99 7 (by kernel_rfl)
                have hf := hs'.func 74
                go_simp
                exact (HUX.out wo (below_undrew hb)).mono fun e w' ⟨he, hb'⟩ => ⟨_, he, Any.post_vals hb rfl rfl hb'⟩
              · refine Any.owes_plain rfl fun ρ wo hs' hb hc' => ?_
                have h93 : ρ (.tmp 93) = .bool false := hs'.new' 93 1 (by kernel_rfl)
                have h100 : ρ (.tmp 100) = .bool u := hs'.new' 100 8 (by kernel_rfl)
                go_simp
                exact Any.post_val hb rfl rfl
              · refine Any.owes_plain rfl fun ρ wo hs' hb hc' => ?_
                have h101 : ρ (.tmp 101) = .bool u := hs'.new' 101 9 (by kernel_rfl)
                exact Any.ok_assign (Any.post_val hb rfl h101)
            intro vals w6 hb hk ha
            have h10 : vals 10 = .bool u := hk 10 (by kernel_rfl)
            have HB6 : Hid (Below w5.heap.size w5 w6) := Lib.hid hb
            have HT6 := Lib.hid (HT5.out.below HB6.out)
            clear hk ha hb
            simp only [Any.putAll]
            go_frame
            simp only [Nat.zero_add, Nat.reduceAdd]
            rw [h10]
            clear h10
            have y8 := ((HB5.out.trans (HB6.out.mono HB5.out.size)).cell (p := ⟨bp, offp + k, none⟩) HBP.out).trans HD0.out
            have HOW6 := Lib.hid (ownsRow_below (ownsRow_below HOWN.out HB5.out) HB6.out)
            have HSR6 := Lib.hid (HSRC.out _ (HB5.out.trans (HB6.out.mono HB5.out.size)))
            have HCL6 : Hid (w1.heap.size ≤ w6.heap.size) := Lib.hid (by have h1 := HWS.out; have h2 := HB5.out.size; have h3 := HB6.out.size; omega)
            go_wp2_with (first
              | ((with_reducible refine Any.wpl_cat ?_ ?_ ?_ Tryz.underlying32 HI.out.1 HI.out.2.1 HI.out.2.2.1 HI.out.2.2.2 ?_ (by decide) HOW6.out HSR6.out ?_ HLE.out.1 HLE.out.2 HCL6.out ?_); rfl; rfl; rfl; rfl; exact HONE.out; intro v7 w7 hown7 hgrow7 hwho7; have HO7 := Lib.hid hown7; have HT7 := Lib.hid (HT6.out.grown HOW6.out HLT1.out hgrow7); have hsz7 := hgrow7.size; clear hown7 hgrow7 hwho7)
              | fail)
            go_roundw
            case rel => exact ⟨k + 1, z, u, by omega, by go_num, rfl, rfl, by rw [HFT.out, List.length_append, ltCells_append]; exact HO7.out, HFF.out, HEE.out, HNK2.out, HLK.out, HT7.out, Nat.le_trans HCL6.out (hsz7)⟩
            case measure => (simp [intOf]) <;> omega
          · have HFF : Hid (z = (F0 || (npSnd (L.take (k + 1))).any fun p => decide (64 < p.length))) := Lib.hid (by rw [HFN.out, ← Bool.or_assoc, ← HFA.out]; rfl)
            have HEE : Hid (true = (ns.take (k + 1)).any fun n => memB n h.used) := Lib.hid (by rw [HEN.out, ← HEA.out]; rfl)
            have y9 := (HB5.out.cell (p := ⟨bp, offp + k, none⟩) HBP.out).trans HD0.out
            go_wp2_with fail
            refine Any.region_lit (fun
              | 0 => Any.val (.bool true)
              | 1 => Any.val (.bool true)
              | 2 => Any.idle
              | 3 => Any.idle
              | 4 => Any.idle
              | 5 => Any.idle
              | 6 => Any.idle
              | 7 => Any.idle
              | 8 => Any.idle
              | 9 => Any.val (.bool true)
              | 10 => Any.val (.bool true)
              | _ => Any.idle) (by kernel_rfl) (by kernel_rfl) (by kernel_rfl) ?_ ?_ ?_
            · intro i _
              match i with
              | 0 => exact Any.lasts_val _
              | 1 => exact Any.lasts_val _
              | 2 => exact Any.lasts_idle
              | 3 => exact Any.lasts_idle
              | 4 => exact Any.lasts_idle
              | 5 => exact Any.lasts_idle
              | 6 => exact Any.lasts_idle
              | 7 => exact Any.lasts_idle
              | 8 => exact Any.lasts_idle
              | 9 => exact Any.lasts_val _
              | 10 => exact Any.lasts_val _
              | n + 11 => exact Any.lasts_idle
            · refine ⟨?_, ?_, ?_, ?_, ?_, ?_, ?_, ?_, ?_, ?_, ?_, trivial⟩
              · refine Any.owes_plain rfl fun ρ wo hs' hb hc' => ?_
                have h14 : ρ (.tmp 14) = .bool true := hs'.old' 14 (by kernel_rfl)
                exact Any.ok_move (Any.post_val hb rfl h14)
              · refine Any.owes_plain rfl fun ρ wo hs' hb hc' => ?_
                have h92 : ρ (.tmp 92) = .bool true := hs'.new' 92 0 (by kernel_rfl)
                exact Any.ok_move (Any.post_val hb rfl h92)
              · exact Any.owes_off rfl rfl (by kernel_rfl) rfl (by decide) rfl
              · exact Any.owes_off rfl rfl (by kernel_rfl) rfl (by decide) rfl
              · exact Any.owes_off rfl rfl (by kernel_rfl) rfl (by decide) rfl
              · exact Any.owes_off rfl rfl (by kernel_rfl) rfl (by decide) rfl
              · exact Any.owes_off rfl rfl (by kernel_rfl) rfl (by decide) rfl
              · exact Any.owes_off rfl rfl (by kernel_rfl) rfl (by decide) rfl
              · exact Any.owes_off rfl rfl (by kernel_rfl) rfl (by decide) rfl
              · refine Any.owes_plain rfl fun ρ wo hs' hb hc' => ?_
                have h93 : ρ (.tmp 93) = .bool true := hs'.new' 93 1 (by kernel_rfl)
                go_simp
                exact Any.post_val hb rfl rfl
              · refine Any.owes_plain rfl fun ρ wo hs' hb hc' => ?_
                have h101 : ρ (.tmp 101) = .bool true := hs'.new' 101 9 (by kernel_rfl)
                exact Any.ok_assign (Any.post_val hb rfl h101)
            intro vals w6 hb hk ha
            have h10 : vals 10 = .bool true := hk 10 (by kernel_rfl)
            have HB6 : Hid (Below w5.heap.size w5 w6) := Lib.hid hb
            have HT6 := Lib.hid (HT5.out.below HB6.out)
            clear hk ha hb
            simp only [Any.putAll]
            go_frame
            simp only [Nat.zero_add, Nat.reduceAdd]
            rw [h10]
            clear h10
            have y8 := ((HB5.out.trans (HB6.out.mono HB5.out.size)).cell (p := ⟨bp, offp + k, none⟩) HBP.out).trans HD0.out
            have HOW6 := Lib.hid (ownsRow_below (ownsRow_below HOWN.out HB5.out) HB6.out)
            have HSR6 := Lib.hid (HSRC.out _ (HB5.out.trans (HB6.out.mono HB5.out.size)))
            have HCL6 : Hid (w1.heap.size ≤ w6.heap.size) := Lib.hid (by have h1 := HWS.out; have h2 := HB5.out.size; have h3 := HB6.out.size; omega)
            go_wp2_with (first
              | ((with_reducible refine Any.wpl_cat ?_ ?_ ?_ Tryz.underlying32 HI.out.1 HI.out.2.1 HI.out.2.2.1 HI.out.2.2.2 ?_ (by decide) HOW6.out HSR6.out ?_ HLE.out.1 HLE.out.2 HCL6.out ?_); rfl; rfl; rfl; rfl; exact HONE.out; intro v7 w7 hown7 hgrow7 hwho7; have HO7 := Lib.hid hown7; have HT7 := Lib.hid (HT6.out.grown HOW6.out HLT1.out hgrow7); have hsz7 := hgrow7.size; clear hown7 hgrow7 hwho7)
              | fail)
            go_roundw
            case rel => exact ⟨k + 1, z, true, by omega, by go_num, rfl, rfl, by rw [HFT.out, List.length_append, ltCells_append]; exact HO7.out, HFF.out, HEE.out, HNK2.out, HLK.out, HT7.out, Nat.le_trans HCL6.out (hsz7)⟩
            case measure => (simp [intOf]) <;> omega
        · cases ex
          · have HFF : Hid (true = (F0 || (npSnd (L.take (k + 1))).any fun p => decide (64 < p.length))) := Lib.hid (by rw [HFN.out, ← Bool.or_assoc, ← HFA.out]; rfl)
            have HEE : Hid (u = (ns.take (k + 1)).any fun n => memB n h.used) := Lib.hid (by rw [HEN.out, ← HEA.out]; rfl)
            have y9 := (HB5.out.cell (p := ⟨bp, offp + k, none⟩) HBP.out).trans HD0.out
            go_wp2_with fail
            refine Any.region_lit (fun
              | 0 => Any.val (.bool false)
              | 1 => Any.val (.bool false)
              | 2 => Any.val (.pointer (some ⟨w.heap.size, 2, none⟩))
              | 3 => Any.val (.slice aU uL cU)
              | 4 => Any.val (.slice (some ⟨bn, offn, none⟩) ns.length cn)
              | 5 => Any.val (.int .i64 k)
              | 6 => Any.val (.pointer (some ⟨bn, offn + k, none⟩))
              | 7 => Any.val (.string xs)
              | 8 => Any.val (.bool u)
              | 9 => Any.val (.bool u)
              | 10 => Any.val (.bool u)
              | _ => Any.idle) (by kernel_rfl) (by kernel_rfl) (by kernel_rfl) ?_ ?_ ?_
            · intro i _
              match i with
              | 0 => exact Any.lasts_val _
              | 1 => exact Any.lasts_val _
              | 2 => exact Any.lasts_val _
              | 3 => exact Any.lasts_val _
              | 4 => exact Any.lasts_val _
              | 5 => exact Any.lasts_val _
              | 6 => exact Any.lasts_val _
              | 7 => exact Any.lasts_val _
              | 8 => exact Any.lasts_val _
              | 9 => exact Any.lasts_val _
              | 10 => exact Any.lasts_val _
              | n + 11 => exact Any.lasts_idle
            · refine ⟨?_, ?_, ?_, ?_, ?_, ?_, ?_, ?_, ?_, ?_, ?_, trivial⟩
              · refine Any.owes_plain rfl fun ρ wo hs' hb hc' => ?_
                have h14 : ρ (.tmp 14) = .bool false := hs'.old' 14 (by kernel_rfl)
                exact Any.ok_move (Any.post_val hb rfl h14)
              · refine Any.owes_plain rfl fun ρ wo hs' hb hc' => ?_
                have h92 : ρ (.tmp 92) = .bool false := hs'.new' 92 0 (by kernel_rfl)
                exact Any.ok_move (Any.post_val hb rfl h92)
              · refine Any.owes_on rfl rfl (by kernel_rfl) rfl fun ρ wo hs' hb hc' => ?_
                have h5 : ρ (.tmp 5) = .pointer (some ⟨w.heap.size, 0, none⟩) := hs'.old' 5 (by kernel_rfl)
                go_simp
                exact Any.post_val hb rfl rfl
              · refine Any.owes_on rfl rfl (by kernel_rfl) rfl fun ρ wo hs' hb hc' => ?_
                have h94 : ρ (.tmp 94) = .pointer (some ⟨w.heap.size, 2, none⟩) := hs'.new' 94 2 (by kernel_rfl)
                obtain ⟨c0, c1, c2⟩ := cells3_blk (blk (below_undrew hb) (lt_blk HT5.out.bx) HT5.out.bx)
                go_simp
                exact Any.post_val hb rfl rfl
              · refine Any.owes_on rfl rfl (by kernel_rfl) rfl fun ρ wo hs' hb hc' => ?_
                have h3 : ρ (.tmp 3) = .slice (some ⟨bn, offn, none⟩) ns.length cn := hs'.old' 3 (by kernel_rfl)
                exact Any.ok_move (Any.post_val hb rfl h3)
              · refine Any.owes_on rfl rfl (by kernel_rfl) rfl fun ρ wo hs' hb hc' => ?_
                have h16 : ρ (.tmp 16) = .int .i64 k := hs'.old' 16 (by kernel_rfl)
                exact Any.ok_move (Any.post_val hb rfl h16)
              · refine Any.owes_on rfl rfl (by kernel_rfl) rfl fun ρ wo hs' hb hc' => ?_
                have h96 : ρ (.tmp 96) = .slice (some ⟨bn, offn, none⟩) ns.length cn := hs'.new' 96 4 (by kernel_rfl)
                have h97 : ρ (.tmp 97) = .int .i64 k := hs'.new' 97 5 (by kernel_rfl)
                go_simp
                exact Any.post_val hb rfl rfl
              · refine Any.owes_on rfl rfl (by kernel_rfl) rfl fun ρ wo hs' hb hc' => ?_
                have h98 : ρ (.tmp 98) = .pointer (some ⟨bn, offn + k, none⟩) := hs'.new' 98 6 (by kernel_rfl)
                have y0 := (HB5.out.trans ((below_undrew hb).mono HB5.out.size)).cell (p := ⟨bn, offn + k, none⟩) HBN.out |>.trans HD1.out
                go_simp
                exact Any.post_val hb rfl rfl
              · refine Any.owes_on rfl rfl (by kernel_rfl) rfl fun ρ wo hs' hb hc' => ?_
                have h95 : ρ (.tmp 95) = .slice aU uL cU := hs'.new' 95 3 (by kernel_rfl)
                have h99 : ρ (.tmp 99) = .string xs := hs'.new' 99 7 (by kernel_rfl)
                have hf := hs'.func 74
                go_simp
                exact (HUX.out wo (below_undrew hb)).mono fun e w' ⟨he, hb'⟩ => ⟨_, he, Any.post_vals hb rfl rfl hb'⟩
              · refine Any.owes_plain rfl fun ρ wo hs' hb hc' => ?_
                have h93 : ρ (.tmp 93) = .bool false := hs'.new' 93 1 (by kernel_rfl)
                have h100 : ρ (.tmp 100) = .bool u := hs'.new' 100 8 (by kernel_rfl)
                go_simp
                exact Any.post_val hb rfl rfl
              · refine Any.owes_plain rfl fun ρ wo hs' hb hc' => ?_
                have h101 : ρ (.tmp 101) = .bool u := hs'.new' 101 9 (by kernel_rfl)
                exact Any.ok_assign (Any.post_val hb rfl h101)
            intro vals w6 hb hk ha
            have h10 : vals 10 = .bool u := hk 10 (by kernel_rfl)
            have HB6 : Hid (Below w5.heap.size w5 w6) := Lib.hid hb
            have HT6 := Lib.hid (HT5.out.below HB6.out)
            clear hk ha hb
            simp only [Any.putAll]
            go_frame
            simp only [Nat.zero_add, Nat.reduceAdd]
            rw [h10]
            clear h10
            have y8 := ((HB5.out.trans (HB6.out.mono HB5.out.size)).cell (p := ⟨bp, offp + k, none⟩) HBP.out).trans HD0.out
            have HOW6 := Lib.hid (ownsRow_below (ownsRow_below HOWN.out HB5.out) HB6.out)
            have HSR6 := Lib.hid (HSRC.out _ (HB5.out.trans (HB6.out.mono HB5.out.size)))
            have HCL6 : Hid (w1.heap.size ≤ w6.heap.size) := Lib.hid (by have h1 := HWS.out; have h2 := HB5.out.size; have h3 := HB6.out.size; omega)
            go_wp2_with (first
              | ((with_reducible refine Any.wpl_cat ?_ ?_ ?_ Tryz.underlying32 HI.out.1 HI.out.2.1 HI.out.2.2.1 HI.out.2.2.2 ?_ (by decide) HOW6.out HSR6.out ?_ HLE.out.1 HLE.out.2 HCL6.out ?_); rfl; rfl; rfl; rfl; exact HONE.out; intro v7 w7 hown7 hgrow7 hwho7; have HO7 := Lib.hid hown7; have HT7 := Lib.hid (HT6.out.grown HOW6.out HLT1.out hgrow7); have hsz7 := hgrow7.size; clear hown7 hgrow7 hwho7)
              | fail)
            go_roundw
            case rel => exact ⟨k + 1, true, u, by omega, by go_num, rfl, rfl, by rw [HFT.out, List.length_append, ltCells_append]; exact HO7.out, HFF.out, HEE.out, HNK2.out, HLK.out, HT7.out, Nat.le_trans HCL6.out (hsz7)⟩
            case measure => (simp [intOf]) <;> omega
          · have HFF : Hid (true = (F0 || (npSnd (L.take (k + 1))).any fun p => decide (64 < p.length))) := Lib.hid (by rw [HFN.out, ← Bool.or_assoc, ← HFA.out]; rfl)
            have HEE : Hid (true = (ns.take (k + 1)).any fun n => memB n h.used) := Lib.hid (by rw [HEN.out, ← HEA.out]; rfl)
            have y9 := (HB5.out.cell (p := ⟨bp, offp + k, none⟩) HBP.out).trans HD0.out
            go_wp2_with fail
            refine Any.region_lit (fun
              | 0 => Any.val (.bool true)
              | 1 => Any.val (.bool true)
              | 2 => Any.idle
              | 3 => Any.idle
              | 4 => Any.idle
              | 5 => Any.idle
              | 6 => Any.idle
              | 7 => Any.idle
              | 8 => Any.idle
              | 9 => Any.val (.bool true)
              | 10 => Any.val (.bool true)
              | _ => Any.idle) (by kernel_rfl) (by kernel_rfl) (by kernel_rfl) ?_ ?_ ?_
            · intro i _
              match i with
              | 0 => exact Any.lasts_val _
              | 1 => exact Any.lasts_val _
              | 2 => exact Any.lasts_idle
              | 3 => exact Any.lasts_idle
              | 4 => exact Any.lasts_idle
              | 5 => exact Any.lasts_idle
              | 6 => exact Any.lasts_idle
              | 7 => exact Any.lasts_idle
              | 8 => exact Any.lasts_idle
              | 9 => exact Any.lasts_val _
              | 10 => exact Any.lasts_val _
              | n + 11 => exact Any.lasts_idle
            · refine ⟨?_, ?_, ?_, ?_, ?_, ?_, ?_, ?_, ?_, ?_, ?_, trivial⟩
              · refine Any.owes_plain rfl fun ρ wo hs' hb hc' => ?_
                have h14 : ρ (.tmp 14) = .bool true := hs'.old' 14 (by kernel_rfl)
                exact Any.ok_move (Any.post_val hb rfl h14)
              · refine Any.owes_plain rfl fun ρ wo hs' hb hc' => ?_
                have h92 : ρ (.tmp 92) = .bool true := hs'.new' 92 0 (by kernel_rfl)
                exact Any.ok_move (Any.post_val hb rfl h92)
              · exact Any.owes_off rfl rfl (by kernel_rfl) rfl (by decide) rfl
              · exact Any.owes_off rfl rfl (by kernel_rfl) rfl (by decide) rfl
              · exact Any.owes_off rfl rfl (by kernel_rfl) rfl (by decide) rfl
              · exact Any.owes_off rfl rfl (by kernel_rfl) rfl (by decide) rfl
              · exact Any.owes_off rfl rfl (by kernel_rfl) rfl (by decide) rfl
              · exact Any.owes_off rfl rfl (by kernel_rfl) rfl (by decide) rfl
              · exact Any.owes_off rfl rfl (by kernel_rfl) rfl (by decide) rfl
              · refine Any.owes_plain rfl fun ρ wo hs' hb hc' => ?_
                have h93 : ρ (.tmp 93) = .bool true := hs'.new' 93 1 (by kernel_rfl)
                go_simp
                exact Any.post_val hb rfl rfl
              · refine Any.owes_plain rfl fun ρ wo hs' hb hc' => ?_
                have h101 : ρ (.tmp 101) = .bool true := hs'.new' 101 9 (by kernel_rfl)
                exact Any.ok_assign (Any.post_val hb rfl h101)
            intro vals w6 hb hk ha
            have h10 : vals 10 = .bool true := hk 10 (by kernel_rfl)
            have HB6 : Hid (Below w5.heap.size w5 w6) := Lib.hid hb
            have HT6 := Lib.hid (HT5.out.below HB6.out)
            clear hk ha hb
            simp only [Any.putAll]
            go_frame
            simp only [Nat.zero_add, Nat.reduceAdd]
            rw [h10]
            clear h10
            have y8 := ((HB5.out.trans (HB6.out.mono HB5.out.size)).cell (p := ⟨bp, offp + k, none⟩) HBP.out).trans HD0.out
            have HOW6 := Lib.hid (ownsRow_below (ownsRow_below HOWN.out HB5.out) HB6.out)
            have HSR6 := Lib.hid (HSRC.out _ (HB5.out.trans (HB6.out.mono HB5.out.size)))
            have HCL6 : Hid (w1.heap.size ≤ w6.heap.size) := Lib.hid (by have h1 := HWS.out; have h2 := HB5.out.size; have h3 := HB6.out.size; omega)
            go_wp2_with (first
              | ((with_reducible refine Any.wpl_cat ?_ ?_ ?_ Tryz.underlying32 HI.out.1 HI.out.2.1 HI.out.2.2.1 HI.out.2.2.2 ?_ (by decide) HOW6.out HSR6.out ?_ HLE.out.1 HLE.out.2 HCL6.out ?_); rfl; rfl; rfl; rfl; exact HONE.out; intro v7 w7 hown7 hgrow7 hwho7; have HO7 := Lib.hid hown7; have HT7 := Lib.hid (HT6.out.grown HOW6.out HLT1.out hgrow7); have hsz7 := hgrow7.size; clear hown7 hgrow7 hwho7)
              | fail)
            go_roundw
            case rel => exact ⟨k + 1, true, true, by omega, by go_num, rfl, rfl, by rw [HFT.out, List.length_append, ltCells_append]; exact HO7.out, HFF.out, HEE.out, HNK2.out, HLK.out, HT7.out, Nat.le_trans HCL6.out (hsz7)⟩
            case measure => (simp [intOf]) <;> omega
      · have hkl : L.take k = L := List.take_of_length_le (by omega)
        have hkn : ns.take k = ns := List.take_of_length_le (by have := HG2.out; omega)
        rw [hkl] at hown hfa hla
        rw [hkn] at hea hnf
        rw [List.drop_of_length_le (by have := HG2.out; omega)] at hnf
        have HLO : Hid (∀ p ∈ npSnd L, lotsOk p = true) := Lib.hid (fun p hp => by
          obtain ⟨q, hq, rfl⟩ := List.mem_map.1 hp
          exact hla q hq)
        have HARG : Hid (partArg ns (npSnd L) = false) := Lib.hid (by
          unfold partArg
          rw [np_len, decide_eq_false HG1.out, decide_eq_true HG2.out, hnf]
          have : ((npSnd L).any fun p => !lotsOk p) = false := by
            rw [List.any_eq_false]
            intro p hp
            rw [HLO.out p hp]; decide
          rw [this]; rfl)
        have HFULL : Hid (partFull h (npSnd L) = f) := Lib.hid (by
          unfold partFull
          rw [hfa, HF0.out, np_len, ← HUU.out, Bool.or_assoc])
        have HPC : Hid (PC = if f = true then 7 else if ex = true then 5 else if sameL (joinL (npSnd L).flatten) rc.lots = true then 0 else 2) := Lib.hid (by
          rw [HPR.out, partR, if_neg (by rw [HARG.out]; decide), HFULL.out, hea])
        have HKEEP := Lib.hid (And.intro hfa hea)
        clear hown hfa hea hnf hla htw hws hkl hkn HFA HEA HLA
        obtain ⟨c0, c1, c2⟩ := HT.out.cells
        cases f
        rotate_left
        · have hpc : PC = 7 := HPC.out
          subst hpc
          have HQ : Hid (PH = h) := Lib.hid (HPH.out (by decide))
          go_wp2_with (first
            | (refine wpList_store_row (P := Tryz.prog) rfl 29 (.tmp 10) (.tmp 109) rfl (w.heap.size + 1) #[.string nm, .slice aL M.length cL, .slice aU uL cU] rfl rfl _ _ HT.out.br (by kernel_rfl) rfl house_one ?_)
            | fail)
          have HTR := Lib.hid (HT.out.row (c := #[.string nm, .slice aL M.length cL, .slice aU uL cU]))
          ((try simp only [Exit.inBlock, Exit.then]); refine bodyPost_ret (results_row_tmp partRes _ _ (w.heap.size + 1) _ _ (0, 0) _ (.int .i64 7) rfl rfl HTR.out.br Tryz.underlying29 rfl (by kernel_rfl)) rfl ?_)
          exact HSAME.out _ _ _ _ HTR.out.bel (rfl) (HQ.out)
        cases ex
        rotate_left
        · have hpc : PC = 5 := HPC.out
          subst hpc
          have HQ : Hid (PH = h) := Lib.hid (HPH.out (by decide))
          go_wp2_with (first
            | (refine wpList_store_row (P := Tryz.prog) rfl 29 (.tmp 10) (.tmp 111) rfl (w.heap.size + 1) #[.string nm, .slice aL M.length cL, .slice aU uL cU] rfl rfl _ _ HT.out.br (by kernel_rfl) rfl house_one ?_)
            | fail)
          have HTR := Lib.hid (HT.out.row (c := #[.string nm, .slice aL M.length cL, .slice aU uL cU]))
          ((try simp only [Exit.inBlock, Exit.then]); refine bodyPost_ret (results_row_tmp partRes _ _ (w.heap.size + 1) _ _ (0, 0) _ (.int .i64 5) rfl rfl HTR.out.br Tryz.underlying29 rfl (by kernel_rfl)) rfl ?_)
          exact HSAME.out _ _ _ _ HTR.out.bel (rfl) (HQ.out)
        have HPC2 : Hid (PC = if sameL (joinL (npSnd L).flatten) rc.lots = true then 0 else 2) := Lib.hid HPC.out
        have HWX := Lib.hid HOWN.out
        rw [List.take_of_length_le (show L.length ≤ k by omega)] at HWX
        obtain ⟨A, hA⟩ : ∃ A, A = (npSnd L).flatten := ⟨_, rfl⟩
        rw [← hA] at HWX HPC2
        obtain ⟨aA, cA, eA⟩ := row_shape HWX.out
        subst eA
        have HAE := Lib.hid hA
        have HAS : Hid (Sl wr 2 (.slice aA A.length cA) (A.map Lt.row)) := Lib.hid (own_lots HWX.out rfl)
        have HALN : Hid (A.length ≤ 100000 ∧ (∀ x ∈ A, 0 < x.cnt) ∧ ∀ g, posTot A g ≤ 4611686018427387904) := Lib.hid (by
          have h1 : fullN h ns.length (npSnd L) = false := by
            have h2 := HFULL.out
            unfold partFull at h2
            unfold fullN
            rw [HG2.out]
            rw [np_len] at h2 ⊢
            exact h2
          obtain ⟨f1, f2⟩ := ptFlat_facts HARG.out h1
          rw [hA]
          exact ⟨f1, ptFlat_pos HLO.out, f2⟩)
        clear hA HPC HOWN
        go_wp2_with fail
        refine (HGE.out _ HT.out.bel).mono ?_
        rintro e w3 ⟨hb3, hcase⟩
        have HT3 := Lib.hid (HT.out.below hb3)
        have HB3 := Lib.hid hb3
        clear hb3 c0 c1 c2
        rcases hcase with ⟨hf, rfl⟩ | ⟨⟨⟨xn, xh, xo, xl, xd⟩, xv⟩, hmem, hf, rfl⟩
        · exfalso
          rw [HEQ.out, HRC.out] at hf
          cases hf
        rw [HEQ.out, HRC.out] at hf
        obtain rfl := Option.some.inj hf
        obtain ⟨ax, cx, hxv⟩ := (HS3.out _ hmem).shape
        simp only [List.length_map] at hxv
        subst hxv
        have HXS : Hid (Sl w 2 (.slice ax xl.length cx) (xl.map Lt.row)) := Lib.hid (HS3.out _ hmem)
        simp only at HPC2 HPR HRB
        simp only [Rv.cells]
        clear hf hmem
        have HB4 := Lib.hid (one_below w3 (.cells #[.string xn, .string xh, .string xo, .slice ax xl.length cx, .int .i64 xd] 34))
        have HT4' := Lib.hid (HT3.out.below HB4.out)
        have HY4' := Lib.hid (heap_alloc_new w3 (.cells #[.string xn, .string xh, .string xo, .slice ax xl.length cx, .int .i64 xd] 34))
        go_wp2_with fail
        obtain ⟨bq, hbq⟩ : ∃ q, q = w3.heap.size := ⟨_, rfl⟩
        obtain ⟨w4, hw4⟩ : ∃ W, W = w3.alloc (.cells #[.string xn, .string xh, .string xo, .slice ax xl.length cx, .int .i64 xd] 34) := ⟨_, rfl⟩
        have HT4 := Lib.hid HT4'.out
        have HY4 := Lib.hid HY4'.out
        have HBR4 : Hid (Below wr.heap.size wr w4) := Lib.hid (by rw [hw4]; exact HB3.out.trans (HB4.out.mono HB3.out.size))
        have HBQ : Hid (w.heap.size + 1 < bq) := Lib.hid (by rw [hbq]; exact HT3.out.lt)
        rw [← hw4] at HT4 HY4 ⊢
        rw [← hbq] at HY4 ⊢
        clear hw4 hbq HT4' HY4'
        obtain ⟨B9, hB9⟩ : ∃ b, b = w4.heap.size := ⟨_, rfl⟩
        have HB9 : Hid (B9 ≤ w4.heap.size) := Lib.hid (Nat.le_of_eq hB9)
        obtain ⟨J, hJ⟩ : ∃ J, J = joinL A := ⟨_, rfl⟩
        have HJN : Hid (∀ W, Below w4.heap.size w4 W → Calls Tryz.prog 76 #[.slice aA A.length cA] W (RetRow W 47 2 J.length (ltCells J))) := Lib.hid (fun W hb => by
          rw [hJ]
          exact refJoin_any A _ W ((HAS.out.below HBR4.out (Nat.le_refl _)).below hb (Nat.le_refl _)) HALN.out.1 HALN.out.2.1 HALN.out.2.2)
        obtain ⟨q, hq⟩ : ∃ q, q = sameL J xl := ⟨_, rfl⟩
        have HSM : Hid (∀ W, Below w4.heap.size w4 W → ∀ s, Sl W 2 s (J.map Lt.row) → Calls Tryz.prog 23 #[s, .slice ax xl.length cx] W (RetB W q)) := Lib.hid (fun W hb s hs => by
          rw [hq, sameL_eq]
          exact refSameL_any J xl s _ W hs ((HXS.out.below HT4.out.bel (Nat.le_refl _)).below hb (Nat.le_refl _)))
        rw [← hJ, ← hq] at HPC2
        clear hB9 hJ hq
        cases q
        · have hpc : PC = 2 := HPC2.out
          subst hpc
          have HQ : Hid (PH = h) := Lib.hid (HPH.out (by decide))
          refine Any.region_lit (fun
            | 0 => Any.val (.slice aA A.length cA)
            | 1 => Any.row B9 47 2 (J.length) (ltCells J) []
            | 2 => Any.val (.pointer (some ⟨bq, 3, none⟩))
            | 3 => Any.val (.slice ax xl.length cx)
            | 4 => Any.val (.bool false)
            | 5 => Any.val (.bool true)
            | _ => Any.idle) (by kernel_rfl) (by kernel_rfl) (by kernel_rfl) ?_ ?_ ?_
          · intro i _
            match i with
            | 0 => exact Any.lasts_val _
            | 1 => exact Any.lasts_row _ _ _ _ _ _
            | 2 => exact Any.lasts_val _
            | 3 => exact Any.lasts_val _
            | 4 => exact Any.lasts_val _
            | 5 => exact Any.lasts_val _
            | n + 6 => exact Any.lasts_idle
          · refine ⟨?_, ?_, ?_, ?_, ?_, ?_, trivial⟩
            · refine Any.owes_plain rfl fun ρ wo hs' hb hc' => ?_
              have h15 : ρ (.tmp 15) = .slice aA A.length cA := hs'.old' 15 (by kernel_rfl)
              exact Any.ok_move (Any.post_val hb rfl h15)
            · refine Any.owes_plain rfl fun ρ wo hs' hb hc' => ?_
              have h118 : ρ (.tmp 118) = .slice aA A.length cA := hs'.new' 118 0 (by kernel_rfl)
              have hf := hs'.func 76
              go_simp
              exact (HJN.out wo (below_undrew hb)).mono fun e w' ⟨v, he, ho, hb'⟩ => ⟨v, he, Any.post_new hb (ownsRow_base ho (Nat.le_trans HB9.out hb.size)) hb' (fun b h => (ho.lt b h).1)⟩
            · refine Any.owes_plain rfl fun ρ wo hs' hb hc' => ?_
              have h17 : ρ (.tmp 17) = .pointer (some ⟨bq, 0, none⟩) := hs'.old' 17 (by kernel_rfl)
              go_simp
              exact Any.post_val hb rfl rfl
            · refine Any.owes_plain rfl fun ρ wo hs' hb hc' => ?_
              have h120 : ρ (.tmp 120) = .pointer (some ⟨bq, 3, none⟩) := hs'.new' 120 2 (by kernel_rfl)
              obtain ⟨-, -, -, y3, -⟩ := five_blk (blk (below_undrew hb) (lt_blk HY4.out) HY4.out)
              go_simp
              exact Any.post_val hb rfl rfl
            · refine Any.owes_plain rfl fun ρ wo hs' hb hc' => ?_
              have h121 : ρ (.tmp 121) = .slice ax xl.length cx := hs'.new' 121 3 (by kernel_rfl)
              have hf := hs'.func 23
              have h119 : wo.ownsRow B9 47 2 (ρ (.tmp 119)) J.length (ltCells J) := hs'.new' 119 1 (by kernel_rfl)
              go_simp
              exact (HSM.out wo (below_undrew hb) _ (own_lots h119 rfl)).mono fun e w' ⟨he, hb'⟩ => ⟨_, he, Any.post_vals hb rfl rfl hb'⟩
            · refine Any.owes_plain rfl fun ρ wo hs' hb hc' => ?_
              have h122 : ρ (.tmp 122) = .bool false := hs'.new' 122 4 (by kernel_rfl)
              go_simp
              exact Any.post_val hb rfl rfl
          intro vals w5 hb hk ha
          have h5 : vals 5 = .bool true := hk 5 (by kernel_rfl)
          have HB5 := Lib.hid hb
          have HT5 := Lib.hid (HT4.out.below HB5.out)
          clear hk ha hb
          simp only [Any.putAll]
          go_frame
          simp only [Nat.zero_add, Nat.reduceAdd]
          rw [h5]
          clear h5
          obtain ⟨c0, c1, c2⟩ := HT5.out.cells
          go_wp2_with (first
            | (refine wpList_store_row (P := Tryz.prog) rfl 29 (.tmp 10) (.tmp 124) rfl (w.heap.size + 1) #[.string nm, .slice aL M.length cL, .slice aU uL cU] rfl rfl _ _ HT5.out.br (by kernel_rfl) rfl house_one ?_)
            | fail)
          have HTR := Lib.hid (HT5.out.row (c := #[.string nm, .slice aL M.length cL, .slice aU uL cU]))
          ((try simp only [Exit.inBlock, Exit.then]); refine bodyPost_ret (results_row_tmp partRes _ _ (w.heap.size + 1) _ _ (0, 0) _ (.int .i64 2) rfl rfl HTR.out.br Tryz.underlying29 rfl (by kernel_rfl)) rfl ?_)
          exact HSAME.out _ _ _ _ HTR.out.bel (rfl) (HQ.out)
        have hpc : PC = 0 := HPC2.out
        subst hpc
        refine Any.region_lit (fun
          | 0 => Any.val (.slice aA A.length cA)
          | 1 => Any.row B9 47 2 (J.length) (ltCells J) []
          | 2 => Any.val (.pointer (some ⟨bq, 3, none⟩))
          | 3 => Any.val (.slice ax xl.length cx)
          | 4 => Any.val (.bool true)
          | 5 => Any.val (.bool false)
          | _ => Any.idle) (by kernel_rfl) (by kernel_rfl) (by kernel_rfl) ?_ ?_ ?_
        · intro i _
          match i with
          | 0 => exact Any.lasts_val _
          | 1 => exact Any.lasts_row _ _ _ _ _ _
          | 2 => exact Any.lasts_val _
          | 3 => exact Any.lasts_val _
          | 4 => exact Any.lasts_val _
          | 5 => exact Any.lasts_val _
          | n + 6 => exact Any.lasts_idle
        · refine ⟨?_, ?_, ?_, ?_, ?_, ?_, trivial⟩
          · refine Any.owes_plain rfl fun ρ wo hs' hb hc' => ?_
            have h15 : ρ (.tmp 15) = .slice aA A.length cA := hs'.old' 15 (by kernel_rfl)
            exact Any.ok_move (Any.post_val hb rfl h15)
          · refine Any.owes_plain rfl fun ρ wo hs' hb hc' => ?_
            have h118 : ρ (.tmp 118) = .slice aA A.length cA := hs'.new' 118 0 (by kernel_rfl)
            have hf := hs'.func 76
            go_simp
            exact (HJN.out wo (below_undrew hb)).mono fun e w' ⟨v, he, ho, hb'⟩ => ⟨v, he, Any.post_new hb (ownsRow_base ho (Nat.le_trans HB9.out hb.size)) hb' (fun b h => (ho.lt b h).1)⟩
          · refine Any.owes_plain rfl fun ρ wo hs' hb hc' => ?_
            have h17 : ρ (.tmp 17) = .pointer (some ⟨bq, 0, none⟩) := hs'.old' 17 (by kernel_rfl)
            go_simp
            exact Any.post_val hb rfl rfl
          · refine Any.owes_plain rfl fun ρ wo hs' hb hc' => ?_
            have h120 : ρ (.tmp 120) = .pointer (some ⟨bq, 3, none⟩) := hs'.new' 120 2 (by kernel_rfl)
            obtain ⟨-, -, -, y3, -⟩ := five_blk (blk (below_undrew hb) (lt_blk HY4.out) HY4.out)
            go_simp
            exact Any.post_val hb rfl rfl
          · refine Any.owes_plain rfl fun ρ wo hs' hb hc' => ?_
            have h121 : ρ (.tmp 121) = .slice ax xl.length cx := hs'.new' 121 3 (by kernel_rfl)
            have hf := hs'.func 23
            have h119 : wo.ownsRow B9 47 2 (ρ (.tmp 119)) J.length (ltCells J) := hs'.new' 119 1 (by kernel_rfl)
            go_simp
            exact (HSM.out wo (below_undrew hb) _ (own_lots h119 rfl)).mono fun e w' ⟨he, hb'⟩ => ⟨_, he, Any.post_vals hb rfl rfl hb'⟩
          · refine Any.owes_plain rfl fun ρ wo hs' hb hc' => ?_
            have h122 : ρ (.tmp 122) = .bool true := hs'.new' 122 4 (by kernel_rfl)
            go_simp
            exact Any.post_val hb rfl rfl
        intro vals w5 hb hk ha
        have h5 : vals 5 = .bool false := hk 5 (by kernel_rfl)
        have HB5 := Lib.hid hb
        have HT5 := Lib.hid (HT4.out.below HB5.out)
        clear hk ha hb
        simp only [Any.putAll]
        go_frame
        simp only [Nat.zero_add, Nat.reduceAdd]
        rw [h5]
        clear h5
        obtain ⟨c0, c1, c2⟩ := HT5.out.cells
        have HY5 := Lib.hid (blk HB5.out (lt_blk HY4.out) HY4.out)
        obtain ⟨L1, hL1⟩ : ∃ L, L = rdelV M n := ⟨_, rfl⟩
        have HR1 : Hid (∀ y ∈ L1, RvOk w y) := Lib.hid (fun y hy => by rw [hL1] at hy; exact HS3.out y (List.mem_filter.1 hy).1)
        have HM1 : Hid (rcsOf L1 = rdel h.L n) := Lib.hid (by rw [hL1, rdelV_of, HEQ.out])
        have HML : Hid (M.length ≤ 800000 ∧ L1.length ≤ 800000) := Lib.hid (by
          have h1 := congrArg List.length HEQ.out
          have h2 : L1.length ≤ M.length := by rw [hL1]; exact List.length_filter_le _ _
          simp only [rcsOf, List.length_map] at h1
          have := HLN.out.1
          omega)
        have HWO : Hid (∀ W, Below w.heap.size w W → Calls Tryz.prog 78 #[.slice aL M.length cL, .string n] W (RetRow W 34 5 L1.length (rvCells L1))) := Lib.hid (fun W hW => by
          rw [hL1]
          exact refWithout_any M n _ W (HS2.out.below hW (Nat.le_refl _)) (fun y hy => Sl.below (HS3.out y hy) hW (Nat.le_refl _)) (by have := HML.out.1; omega))
        have HBQ5 : Hid (bq ≠ w.heap.size) := Lib.hid (by have := HBQ.out; omega)
        clear hL1
        go_wp2_with (first
          | ((with_reducible refine (HWO.out _ HT5.out.bel).mono ?_); rintro e w6 ⟨v6, rfl, ho6, hb6⟩; obtain ⟨a6, c6, e6⟩ := row_shape ho6; subst e6; have HO6 := Lib.hid ho6; have HT6 := Lib.hid (HT5.out.below hb6); have HY6 := Lib.hid (blk hb6 (lt_blk HY5.out) HY5.out); clear c0 c1 c2 ho6 hb6; obtain ⟨c0, c1, c2⟩ := HT6.out.cells; have zf := free_blk HT6.out.bx 1; have HT7' := Lib.hid (HT6.out.set1 (u := .slice a6 L1.length c6)))
          | fail)
        clear c0 c1 c2 zf
        have HK7 := Lib.hid (set_keep w6 w.heap.size 1 (.slice a6 L1.length c6))
        have HY7' := Lib.hid (HK7.out.blk HY6.out (fun e => HBQ5.out e))
        have HO7' := Lib.hid (ownsRow_base (ownsRow_keep HO6.out HK7.out (fun b hb e => by have := (HO6.out.lt b hb).1; have := HT5.out.lt; omega)) (show w.heap.size + 2 ≤ w5.heap.size by have := HT5.out.lt; omega))
        obtain ⟨w7, hw7⟩ : ∃ W, W = w6.setCell ⟨w.heap.size, 1, none⟩ (.slice a6 L1.length c6) := ⟨_, rfl⟩
        have HT7 := Lib.hid HT7'.out
        have HY7 := Lib.hid HY7'.out
        have HO7 := Lib.hid HO7'.out
        rw [← hw7] at HT7 HY7 HO7 ⊢
        clear hw7 HT7' HY7' HO7' HK7
        obtain ⟨PL, hPL⟩ : ∃ PL, PL = partsL nm b xd (rdel h.L n) ns (npSnd L) := ⟨_, rfl⟩
        have HPL := Lib.hid hPL
        have HPHE : Hid (PH = ⟨h.name, PL, h.used ++ ns⟩) := Lib.hid (by
          obtain ⟨r', hr', -, -, hph⟩ : ∃ r, rfind h.L n = some r ∧ r.hold = b ∧ partR h r.lots ns (npSnd L) = 0 ∧ PH = ⟨h.name, partsL h.name b r.day (rdel h.L n) ns (npSnd L), h.used ++ ns⟩ := by first | exact HPS.out rfl | exact HPS.out trivial | exact HPS.out
          rw [HRC.out] at hr'
          obtain rfl := Option.some.inj hr'
          rw [hph, hPL, HNN.out])
        clear hPL
        go_loopw [19] (fun i wz => ∃ (k : Nat) (Mk : List Rv) (aK : Option Addr) (cK : Nat), k ≤ L.length ∧ i = .int .i64 k ∧ Two w wz #[.string nm, .slice aK Mk.length cK, .slice aU uL cU] #[.string ⟨#[]⟩, .slice none 0 0, .slice none 0 0] ∧
          wz.ownsRow (w.heap.size + 2) 34 5 (.slice aK Mk.length cK) Mk.length (rvCells Mk) ∧ (∀ y ∈ Mk, RvOk w y ∨ wz.ownsRow (w.heap.size + 2) 47 2 y.lv y.rc.lots.length (ltCells y.rc.lots)) ∧
          partsL nm b xd (rcsOf Mk) (ns.drop k) ((npSnd L).drop k) = PL ∧ Mk.length ≤ 800000 + k ∧ wz.heap[bq]? = some (.cells #[.string xn, .string xh, .string xo, .slice ax xl.length cx, .int .i64 xd] 34 (0, 0))) (fun i _ => L.length - (intOf i).toNat)
        case atStart => exact ⟨0, L1, a6, c6, Nat.zero_le _, rfl, HT7.out, HO7.out, fun y hy => .inl (HR1.out y hy), by rw [HM1.out, HPL.out]; rfl, by have := HML.out.2; omega, HY7.out⟩
        case round =>
          obtain ⟨k2, Mk, aK, cK, hk2, rfl, htk, howk, hyk, hpk, hlk, hbk⟩ := hrel
          have HTK2 := Lib.hid htk
          have HOK2 := Lib.hid howk
          have HYK := Lib.hid hyk
          have HLK2 := Lib.hid hlk
          have HBK2 := Lib.hid hbk
          by_cases hlt : k2 < L.length
          · have hlt' : k2 < ns.length := by have := HG2.out; omega
            obtain ⟨bp, offp, rfl, -, hbp, hcp⟩ := HP.out.1.at (i := k2) (by simpa using hlt)
            have d0 : w.cell? ⟨bp, offp + k2 * 1, none⟩ = some L[k2].1 := hcp k2 [L[k2].1] (by simp [hlt]) 0 _ rfl
            rw [Nat.mul_one] at d0
            obtain ⟨bn, offn, rfl, -, hbn, hcn⟩ := HN.out.at (i := k2) (by simpa using hlt')
            have d1 : w.cell? ⟨bn, offn + k2 * 1, none⟩ = some (.string ns[k2]) := hcn k2 (stRow ns[k2]) (by simp [hlt']) 0 _ rfl
            rw [Nat.mul_one] at d1
            have hx := HP.out.2 L[k2] (List.getElem_mem hlt)
            have hlk9 : k2 < (npSnd L).length := by rw [np_len]; exact hlt
            have hge : (npSnd L)[k2] = L[k2].2 := by simp [npSnd]
            have hlo := HLO.out L[k2].2 (List.mem_map_of_mem (List.getElem_mem hlt))
            have hlx := HLN.out.2.2.2 L[k2] (List.getElem_mem hlt)
            rw [List.drop_eq_getElem_cons hlt', List.drop_eq_getElem_cons hlk9, hge] at hpk
            generalize L[k2] = x at *
            generalize ns[k2] = xs at *
            obtain ⟨xv, yl⟩ := x
            simp only at d0 hx hlo hlx hpk
            obtain ⟨ayl, cyl, rfl⟩ : ∃ a c, xv = .slice a yl.length c := by simpa using hx.shape
            obtain ⟨J2, hJ2⟩ : ∃ J, J = joinL yl := ⟨_, rfl⟩
            obtain ⟨M9, hM9⟩ : ∃ M', M' = Mk := ⟨_, rfl⟩
            obtain ⟨B9, hB9⟩ : ∃ B, B = wr.heap.size := ⟨_, rfl⟩
            have HBK9 : Hid (∀ W, Keep (fun k => k = w.heap.size) wr.drew W → Keep (fun k => k = w.heap.size) wr W) := Lib.hid (fun W hW => hW.undrew)
            have HBB : Hid (∀ W, Keep (fun k => k = w.heap.size) wr W → Below w.heap.size w W) := Lib.hid (fun W hW => hW.behind HTK2.out.bel HTK2.out.bel.size (fun k hk e => by omega))
            have HB9 : Hid (B9 ≤ wr.heap.size) := Lib.hid (Nat.le_of_eq hB9)
            have HX9 : Hid (w.heap.size < B9) := Lib.hid (by have := HTK2.out.lt; omega)
            have HLT9 : Hid (w.heap.size + 2 ≤ B9) := Lib.hid (by have := HTK2.out.lt; omega)
            have HL9 : Hid (w.heap.size < wr.drew.heap.size) := Lib.hid (by have := HTK2.out.lt; show w.heap.size < wr.heap.size; omega)
            have HBX9 : Hid (wr.drew.heap[w.heap.size]? = some (.cells #[.string nm, .slice aK Mk.length cK, .slice aU uL cU] 29 (0, 0))) := Lib.hid HTK2.out.bx
            have HN9 : Hid (∀ W, Keep (fun k => k = w.heap.size) wr W → W.cell? ⟨bn, offn + k2, none⟩ = some (.string xs)) := Lib.hid (fun W hW => ((HBB.out W hW).cell (p := ⟨bn, offn + k2, none⟩) hbn).trans d1)
            have HP9 : Hid (∀ W, Keep (fun k => k = w.heap.size) wr W → W.cell? ⟨bp, offp + k2, none⟩ = some (.slice ayl yl.length cyl)) := Lib.hid (fun W hW => ((HBB.out W hW).cell (p := ⟨bp, offp + k2, none⟩) hbp).trans d0)
            have HD9 : Hid (∀ W, Keep (fun k => k = w.heap.size) wr W → W.cell? ⟨bq, 4, none⟩ = some (.int .i64 xd)) := Lib.hid (fun W hW => (five_blk (hW.blk HBK2.out (fun e => HBQ5.out e))).2.2.2.2)
            have HJN : Hid (∀ W, Keep (fun k => k = w.heap.size) wr W → Calls Tryz.prog 76 #[.slice ayl yl.length cyl] W (RetRow W 47 2 J2.length (ltCells J2))) := Lib.hid (fun W hW => by
              rw [hJ2]
              refine refJoin_any yl _ W (hx.below (HBB.out W hW) (Nat.le_refl _)) (by omega) (lotsOk_pos hlo) fun g => ?_
              have h1 := posTot_totC (lotsOk_pos hlo) g
              have h2 := lotsOk_max hlo
              omega)
            have HPU : Hid (∀ W, Keep (fun k => k = w.heap.size) wr W → ∀ s, Sl W 2 s (J2.map Lt.row) → Calls Tryz.prog 75 #[.slice aK Mk.length cK, .agg (Rv.cells ⟨⟨xs, nm, b, J2, xd⟩, s⟩)] W (RetRow W 34 5 (rputV M9 ⟨⟨xs, nm, b, J2, xd⟩, s⟩).length (rvCells (rputV M9 ⟨⟨xs, nm, b, J2, xd⟩, s⟩)))) := Lib.hid (fun W hW s hss => by
              rw [hM9]
              refine refPut_rc Mk ⟨⟨xs, nm, b, J2, xd⟩, s⟩ _ W (own_rvs (ownsRow_keep HOK2.out hW (fun q hq e => by have := (HOK2.out.lt q hq).1; omega)) rfl) (fun y hy => ?_) hss (by have := HLN.out.2.2.1; have := HLK2.out; omega)
              rcases HYK.out y hy with e | e
              · exact Sl.below e (HBB.out W hW) (Nat.le_refl _)
              · exact own_lots (ownsRow_keep e hW (fun q hq e' => by have := (e.lt q hq).1; omega)) rfl)
            have HPK2 := Lib.hid hpk
            have HM9 := Lib.hid hM9
            have HJ2 := Lib.hid hJ2
            clear hbp hcp hbn hcn d0 d1 hx hlo hlx hpk hlk9 hge htk howk hyk hlk hbk hJ2 hM9 hB9
            go_wp2_with fail
            refine Ord.region_lit (fun
              | 0 => Ord.val (.pointer (some ⟨w.heap.size, 1, none⟩))
              | 1 => Ord.val (.slice aK Mk.length cK)
              | 2 => Ord.val (.slice (some ⟨bn, offn, none⟩) ns.length cn)
              | 3 => Ord.val (.int .i64 k2)
              | 4 => Ord.val (.pointer (some ⟨bn, offn + k2, none⟩))
              | 5 => Ord.val (.string xs)
              | 6 => Ord.val (.pointer (some ⟨w.heap.size, 0, none⟩))
              | 7 => Ord.val (.string nm)
              | 8 => Ord.val (.string b)
              | 9 => Ord.val (.slice (some ⟨bp, offp, none⟩) L.length cp)
              | 10 => Ord.val (.int .i64 k2)
              | 11 => Ord.val (.pointer (some ⟨bp, offp + k2, none⟩))
              | 12 => Ord.val (.slice ayl yl.length cyl)
              | 13 => Ord.lotsS B9 J2
              | 14 => Ord.val (.pointer (some ⟨bq, 4, none⟩))
              | 15 => Ord.val (.int .i64 xd)
              | 16 => Ord.rcS B9 J2 (⟨xs, nm, b, J2, xd⟩) 13
              | 17 => Ord.putsS B9 J2 (⟨xs, nm, b, J2, xd⟩) M9 16
              | 18 => Ord.val (.pointer (some ⟨w.heap.size, 1, none⟩))
              | 19 => Ord.inS B9 J2 (⟨xs, nm, b, J2, xd⟩) M9 w.heap.size nm (.slice aU uL cU) 17
              | _ => Ord.idle) (fun k => k = w.heap.size) (by kernel_rfl) (by kernel_rfl) (by kernel_rfl) ?_ ?_ ?_ ?_
            · intro i _
              match i with
              | 0 => exact Ord.lasts_val _
              | 1 => exact Ord.lasts_val _
              | 2 => exact Ord.lasts_val _
              | 3 => exact Ord.lasts_val _
              | 4 => exact Ord.lasts_val _
              | 5 => exact Ord.lasts_val _
              | 6 => exact Ord.lasts_val _
              | 7 => exact Ord.lasts_val _
              | 8 => exact Ord.lasts_val _
              | 9 => exact Ord.lasts_val _
              | 10 => exact Ord.lasts_val _
              | 11 => exact Ord.lasts_val _
              | 12 => exact Ord.lasts_val _
              | 13 => exact Ord.lasts_lots _ _
              | 14 => exact Ord.lasts_val _
              | 15 => exact Ord.lasts_val _
              | 16 => exact Ord.lasts_rc _ _ _ _
              | 17 => exact Ord.lasts_puts _ _ _ _ _
              | 18 => exact Ord.lasts_val _
              | 19 => exact Ord.lasts_in _ _ _ _ _ _ _ _
              | n + 20 => exact Ord.lasts_idle
            · refine ⟨fun k b _ hh => ?_, fun k b _ hh => ?_, fun k k' b _ _ hne h1 h2 => ?_⟩
              · match k, hh with
                | 0, hh => exact hh.elim
                | 1, hh => exact hh.elim
                | 2, hh => exact hh.elim
                | 3, hh => exact hh.elim
                | 4, hh => exact hh.elim
                | 5, hh => exact hh.elim
                | 6, hh => exact hh.elim
                | 7, hh => exact hh.elim
                | 8, hh => exact hh.elim
                | 9, hh => exact hh.elim
                | 10, hh => exact hh.elim
                | 11, hh => exact hh.elim
                | 12, hh => exact hh.elim
                | 13, hh => exact hh.elim
                | 14, hh => exact hh.elim
                | 15, hh => exact hh.elim
                | 16, hh => exact hh.elim
                | 17, hh => exact hh.elim
                | 18, hh => exact hh.elim
                | 19, hh => exact hh
                | m + 20, hh => exact hh.elim
              · match k, hh with
                | 0, hh => exact hh.elim
                | 1, hh => exact hh.elim
                | 2, hh => exact hh.elim
                | 3, hh => exact hh.elim
                | 4, hh => exact hh.elim
                | 5, hh => exact hh.elim
                | 6, hh => exact hh.elim
                | 7, hh => exact hh.elim
                | 8, hh => exact hh.elim
                | 9, hh => exact hh.elim
                | 10, hh => exact hh.elim
                | 11, hh => exact hh.elim
                | 12, hh => exact hh.elim
                | 13, hh => exact hh.elim
                | 14, hh => exact hh.elim
                | 15, hh => exact hh.elim
                | 16, hh => exact hh.elim
                | 17, hh => exact hh.elim
                | 18, hh => exact hh.elim
                | 19, hh => exact (show _ = w.heap.size from hh) ▸ HL9.out
                | m + 20, hh => exact hh.elim
              · have a : (k = 19 ∧ (fun k => k = w.heap.size) b) := by
                  match k, h1 with
                  | 0, hh => exact hh.elim
                  | 1, hh => exact hh.elim
                  | 2, hh => exact hh.elim
                  | 3, hh => exact hh.elim
                  | 4, hh => exact hh.elim
                  | 5, hh => exact hh.elim
                  | 6, hh => exact hh.elim
                  | 7, hh => exact hh.elim
                  | 8, hh => exact hh.elim
                  | 9, hh => exact hh.elim
                  | 10, hh => exact hh.elim
                  | 11, hh => exact hh.elim
                  | 12, hh => exact hh.elim
                  | 13, hh => exact hh.elim
                  | 14, hh => exact hh.elim
                  | 15, hh => exact hh.elim
                  | 16, hh => exact hh.elim
                  | 17, hh => exact hh.elim
                  | 18, hh => exact hh.elim
                  | 19, hh => exact ⟨rfl, hh⟩
                  | m + 20, hh => exact hh.elim
                have a' : (k' = 19 ∧ (fun k => k = w.heap.size) b) := by
                  match k', h2 with
                  | 0, hh => exact hh.elim
                  | 1, hh => exact hh.elim
                  | 2, hh => exact hh.elim
                  | 3, hh => exact hh.elim
                  | 4, hh => exact hh.elim
                  | 5, hh => exact hh.elim
                  | 6, hh => exact hh.elim
                  | 7, hh => exact hh.elim
                  | 8, hh => exact hh.elim
                  | 9, hh => exact hh.elim
                  | 10, hh => exact hh.elim
                  | 11, hh => exact hh.elim
                  | 12, hh => exact hh.elim
                  | 13, hh => exact hh.elim
                  | 14, hh => exact hh.elim
                  | 15, hh => exact hh.elim
                  | 16, hh => exact hh.elim
                  | 17, hh => exact hh.elim
                  | 18, hh => exact hh.elim
                  | 19, hh => exact ⟨rfl, hh⟩
                  | m + 20, hh => exact hh.elim
                rcases a with ⟨rfl, a⟩ <;> rcases a' with ⟨rfl, a'⟩
                all_goals first | exact absurd rfl hne | (exact hne rfl)
            · refine ⟨?_, ?_, ?_, ?_, ?_, ?_, ?_, ?_, ?_, ?_, ?_, ?_, ?_, ?_, ?_, ?_, ?_, ?_, ?_, ?_, trivial⟩
              · refine Ord.owes_plain rfl fun ρ Os wo hs' hb hc' => ?_
                have h5 : ρ (.tmp 5) = .pointer (some ⟨w.heap.size, 0, none⟩) := hs'.old' 5 (by kernel_rfl)
                go_simp
                exact Ord.post_val rfl rfl
              · refine Ord.owes_plain rfl fun ρ Os wo hs' hb hc' => ?_
                have h136 : ρ (.tmp 136) = .pointer (some ⟨w.heap.size, 1, none⟩) := hs'.val' 136 0 (by kernel_rfl) rfl
                obtain ⟨c0, c1, c2⟩ := cells3_blk ((hs'.early' 19 (by kernel_rfl) w.heap.size rfl).trans HBX9.out)
                go_simp
                exact Ord.post_val rfl rfl
              · refine Ord.owes_plain rfl fun ρ Os wo hs' hb hc' => ?_
                have h3 : ρ (.tmp 3) = .slice (some ⟨bn, offn, none⟩) ns.length cn := hs'.old' 3 (by kernel_rfl)
                exact Any.ok_move (Ord.post_val rfl h3)
              · refine Ord.owes_plain rfl fun ρ Os wo hs' hb hc' => ?_
                have h19 : ρ (.tmp 19) = .int .i64 k2 := hs'.old' 19 (by kernel_rfl)
                exact Any.ok_move (Ord.post_val rfl h19)
              · refine Ord.owes_plain rfl fun ρ Os wo hs' hb hc' => ?_
                have h138 : ρ (.tmp 138) = .slice (some ⟨bn, offn, none⟩) ns.length cn := hs'.val' 138 2 (by kernel_rfl) rfl
                have h139 : ρ (.tmp 139) = .int .i64 k2 := hs'.val' 139 3 (by kernel_rfl) rfl
                go_simp
                exact Ord.post_val rfl rfl
              · refine Ord.owes_plain rfl fun ρ Os wo hs' hb hc' => ?_
                have h140 : ρ (.tmp 140) = .pointer (some ⟨bn, offn + k2, none⟩) := hs'.val' 140 4 (by kernel_rfl) rfl
                have q5 := HN9.out wo (HBK9.out wo hb)
                go_simp
                exact Ord.post_val rfl rfl
              · refine Ord.owes_plain rfl fun ρ Os wo hs' hb hc' => ?_
                have h5 : ρ (.tmp 5) = .pointer (some ⟨w.heap.size, 0, none⟩) := hs'.old' 5 (by kernel_rfl)
                go_simp
                exact Ord.post_val rfl rfl
              · refine Ord.owes_plain rfl fun ρ Os wo hs' hb hc' => ?_
                have h142 : ρ (.tmp 142) = .pointer (some ⟨w.heap.size, 0, none⟩) := hs'.val' 142 6 (by kernel_rfl) rfl
                obtain ⟨c0, c1, c2⟩ := cells3_blk ((hs'.early' 19 (by kernel_rfl) w.heap.size rfl).trans HBX9.out)
                go_simp
                exact Ord.post_val rfl rfl
              · refine Ord.owes_plain rfl fun ρ Os wo hs' hb hc' => ?_
                have h2 : ρ (.tmp 2) = .string b := hs'.old' 2 (by kernel_rfl)
                exact Any.ok_move (Ord.post_val rfl h2)
              · refine Ord.owes_plain rfl fun ρ Os wo hs' hb hc' => ?_
                have h4 : ρ (.tmp 4) = .slice (some ⟨bp, offp, none⟩) L.length cp := hs'.old' 4 (by kernel_rfl)
                exact Any.ok_move (Ord.post_val rfl h4)
              · refine Ord.owes_plain rfl fun ρ Os wo hs' hb hc' => ?_
                have h19 : ρ (.tmp 19) = .int .i64 k2 := hs'.old' 19 (by kernel_rfl)
                exact Any.ok_move (Ord.post_val rfl h19)
              · refine Ord.owes_plain rfl fun ρ Os wo hs' hb hc' => ?_
                have h145 : ρ (.tmp 145) = .slice (some ⟨bp, offp, none⟩) L.length cp := hs'.val' 145 9 (by kernel_rfl) rfl
                have h146 : ρ (.tmp 146) = .int .i64 k2 := hs'.val' 146 10 (by kernel_rfl) rfl
                go_simp
                exact Ord.post_val rfl rfl
              · refine Ord.owes_plain rfl fun ρ Os wo hs' hb hc' => ?_
                have h147 : ρ (.tmp 147) = .pointer (some ⟨bp, offp + k2, none⟩) := hs'.val' 147 11 (by kernel_rfl) rfl
                have q12 := HP9.out wo (HBK9.out wo hb)
                go_simp
                exact Ord.post_val rfl rfl
              · refine Ord.owes_plain rfl fun ρ Os wo hs' hb hc' => ?_
                have h148 : ρ (.tmp 148) = .slice ayl yl.length cyl := hs'.val' 148 12 (by kernel_rfl) rfl
                have hf := hs'.func 76
                go_simp
                exact (HJN.out wo (HBK9.out wo hb)).mono fun e w' ⟨v, he, ho, hb'⟩ => ⟨v, he, Ord.post_lots ho hb' (Nat.le_trans HB9.out hb.size) rfl⟩
              · refine Ord.owes_plain rfl fun ρ Os wo hs' hb hc' => ?_
                have h17 : ρ (.tmp 17) = .pointer (some ⟨bq, 0, none⟩) := hs'.old' 17 (by kernel_rfl)
                go_simp
                exact Ord.post_val rfl rfl
              · refine Ord.owes_plain rfl fun ρ Os wo hs' hb hc' => ?_
                have h150 : ρ (.tmp 150) = .pointer (some ⟨bq, 4, none⟩) := hs'.val' 150 14 (by kernel_rfl) rfl
                have q15 := HD9.out wo (HBK9.out wo hb)
                go_simp
                exact Ord.post_val rfl rfl
              · refine Ord.owes_plain rfl fun ρ Os wo hs' hb hc' => ?_
                have h141 : ρ (.tmp 141) = .string xs := hs'.val' 141 5 (by kernel_rfl) rfl
                have h143 : ρ (.tmp 143) = .string nm := hs'.val' 143 7 (by kernel_rfl) rfl
                have h144 : ρ (.tmp 144) = .string b := hs'.val' 144 8 (by kernel_rfl) rfl
                have h151 : ρ (.tmp 151) = .int .i64 xd := hs'.val' 151 15 (by kernel_rfl) rfl
                obtain ⟨_, oj, Oj⟩ := hs'.new' 149 13 (by kernel_rfl)
                obtain ⟨aJ, cJ, eJ⟩ := row_shape oj
                rw [eJ] at oj Oj
                go_simp
                exact Ord.post_rc oj Oj rfl
              · refine Ord.owes_plain rfl fun ρ Os wo hs' hb hc' => ?_
                have h137 : ρ (.tmp 137) = .slice aK Mk.length cK := hs'.val' 137 1 (by kernel_rfl) rfl
                have hf := hs'.func 75
                obtain ⟨_, s, eb, oj, Oj⟩ := hs'.new' 152 16 (by kernel_rfl)
                go_simp
                exact (HPU.out wo (HBK9.out wo hb) s (own_lots oj rfl)).mono fun e w' ⟨v, he, ho, hb'⟩ => ⟨v, he, Ord.post_puts ho hb' (Nat.le_trans HB9.out hb.size) oj Oj rfl⟩
              · refine Ord.owes_plain rfl fun ρ Os wo hs' hb hc' => ?_
                have h5 : ρ (.tmp 5) = .pointer (some ⟨w.heap.size, 0, none⟩) := hs'.old' 5 (by kernel_rfl)
                go_simp
                exact Ord.post_val rfl rfl
              · refine Ord.owes_plain rfl fun ρ Os wo hs' hb hc' => ?_
                have h154 : ρ (.tmp 154) = .pointer (some ⟨w.heap.size, 1, none⟩) := hs'.val' 154 18 (by kernel_rfl) rfl
                obtain ⟨_, s, op, oj, Oj⟩ := hs'.new' 153 17 (by kernel_rfl)
                obtain ⟨aV, cV, eV⟩ := row_shape op
                rw [eV] at op Oj
                have hx := (hs'.here w.heap.size rfl).trans HBX9.out
                obtain ⟨c0, c1, c2⟩ := cells3_blk ((hs'.here w.heap.size rfl).trans HBX9.out)
                have zf := free_blk hx 1
                go_simp
                exact Ord.post_in hx op oj Oj HX9.out rfl
            intro vals Os ρs w5 hk hkn hln hap hbd
            obtain ⟨s, vp, hbx, hvp, hso, -⟩ := hkn 19 (by kernel_rfl)
            have HK9 := Lib.hid hk
            clear hk hkn hln hap hbd
            simp only [Any.putAll]
            go_frame
            obtain ⟨aV, cV, hv⟩ := row_shape hvp
            rw [hv] at hbx hvp
            clear hv
            have HBX5 := Lib.hid hbx
            have HVP := Lib.hid hvp
            have HSO := Lib.hid hso
            clear hbx hvp hso
            have HT5 : Hid (Two w w5 #[.string nm, .slice aV (rputV M9 ⟨⟨xs, nm, b, J2, xd⟩, s⟩).length cV, .slice aU uL cU] #[.string ⟨#[]⟩, .slice none 0 0, .slice none 0 0]) := Lib.hid ⟨HK9.out.behind HTK2.out.bel HTK2.out.bel.size (fun k hk e => by omega), HBX5.out, HK9.out.blk HTK2.out.br (fun e => by omega)⟩
            go_wp2_with fail
            go_roundw
            case rel =>
              refine ⟨k2 + 1, rputV M9 ⟨⟨xs, nm, b, J2, xd⟩, s⟩, aV, cV, by omega, by go_num, HT5.out, ownsRow_base HVP.out HLT9.out, fun y hy => ?_, ?_, ?_, HK9.out.blk HBK2.out (fun e => HBQ5.out e)⟩
              · rw [HM9.out] at hy
                rcases mem_rputV hy with e | e
                · rw [e]; exact .inr (ownsRow_base HSO.out HLT9.out)
                · rcases HYK.out y e with e | e
                  · exact .inl e
                  · exact .inr (ownsRow_keep e HK9.out (fun q hq e' => by have := (e.lt q hq).1; omega))
              · rw [rputV_of, HM9.out, HJ2.out]; exact HPK2.out
              · rw [rputV_len, HM9.out]; have := HLK2.out; omega
            case measure => (simp [intOf]) <;> omega
          · skip
            have HKL : Hid (rcsOf Mk = PL) := Lib.hid (by
              rw [List.drop_of_length_le (show ns.length ≤ k2 by have := HG2.out; omega)] at hpk
              have h9 := hpk
              simp only [partsL] at h9
              exact h9)
            obtain ⟨i1, hi1, hz1, hsz1, hby1⟩ := info_parts infoStr
            have HIS := Lib.hid (And.intro hi1 (And.intro hz1 (And.intro hsz1 hby1)))
            have HUN : Hid (uL ≤ 800000 ∧ ns.length ≤ 1000) := Lib.hid (by have h1 := HG2.out; have h2 := HLN.out.2.2.1; omega)
            have HB5 := Lib.hid (one_below wr (.cells #[] 9))
            have HT5B := Lib.hid (HTK2.out.below HB5.out)
            obtain ⟨c0, c1, c2⟩ := HT5B.out.cells
            have zf := free_blk HT5B.out.bx 2
            have HO5 : Hid ((wr.alloc (.cells #[] 9)).ownsRow wr.heap.size 9 1 (.slice (some ⟨wr.heap.size, 0, none⟩) 0 0) 0 []) := Lib.hid (World.ownsRow_made wr #[] 0 (Nat.le_refl _) (by simp [maxLen]) rfl)
            have HSR : Hid (Src (wr.alloc (.cells #[] 9)) 1 (.slice aU uL cU) uL (strCells h.used)) := Lib.hid (by
              have h1 := src_strs (HS4.out.below (HTK2.out.bel.trans (HB5.out.mono HTK2.out.bel.size)) (Nat.le_refl _))
              rw [← HUU.out] at h1
              exact h1)
            have HCL : Hid (0 + uL ≤ maxLen ∧ (0 + uL) * 16 ≤ 140737488355328 ∧ wr.heap.size ≤ (wr.alloc (.cells #[] 9)).heap.size) := Lib.hid (by have := HUN.out; have := HB5.out.size; simp only [maxLen]; omega)
            clear htk howk hyk hpk hlk hbk hi1 hz1 hsz1 hby1
            go_wp2_with (first
              | ((with_reducible refine Any.wpl_cat ?_ ?_ ?_ Tryz.underlying27 HIS.out.1 HIS.out.2.1 HIS.out.2.2.1 HIS.out.2.2.2 ?_ (by decide) HO5.out HSR.out (strs_one _) HCL.out.1 HCL.out.2.1 HCL.out.2.2 ?_); rfl; rfl; rfl; rfl; intro v6 w6 hown6 hgrow6 hwho6; have HB6 := Lib.hid (HB5.out.grown hgrow6 HB5.out.size (fun k hk => (HO5.out.lt k hk).1)); have HO6 : Hid (w6.ownsRow wr.heap.size 9 1 v6 uL (strCells h.used)) := Lib.hid (by have := hown6; simpa using this); have HL6 : Hid (uL + ns.length ≤ maxLen ∧ (uL + ns.length) * 16 ≤ 140737488355328 ∧ wr.heap.size ≤ w6.heap.size) := Lib.hid (by have := HUN.out; have := HB6.out.size; simp only [maxLen]; omega); have HSN : Hid (Src w6 1 (.slice an ns.length cn) ns.length (strCells ns)) := Lib.hid (src_strs (HN.out.below (HTK2.out.bel.trans (HB6.out.mono HTK2.out.bel.size)) (Nat.le_refl _))); clear hown6 hgrow6 hwho6)
              | ((with_reducible refine Any.wpl_cat ?_ ?_ ?_ Tryz.underlying27 HIS.out.1 HIS.out.2.1 HIS.out.2.2.1 HIS.out.2.2.2 ?_ (by decide) HO6.out HSN.out (strs_one _) HL6.out.1 HL6.out.2.1 HL6.out.2.2 ?_); rfl; rfl; rfl; rfl; intro v7 w7 hown7 hgrow7 hwho7; have HB7 := Lib.hid (HB6.out.grown hgrow7 HB6.out.size (fun k hk => (HO6.out.lt k hk).1)); obtain ⟨a7, c7, e7⟩ := row_shape hown7; subst e7; have HO7 := Lib.hid hown7; have HT7 := Lib.hid (HTK2.out.below HB7.out); clear c0 c1 c2 zf hown7 hgrow7 hwho7; obtain ⟨c0, c1, c2⟩ := HT7.out.cells; have zf := free_blk HT7.out.bx 2; have HT8 := Lib.hid (HT7.out.set2 (u := .slice a7 (uL + ns.length) c7)))
              | (refine wpList_store_row (P := Tryz.prog) rfl 29 (.tmp 10) (.tmp 162) rfl (w.heap.size + 1) #[.string nm, .slice aK Mk.length cK, .slice a7 (uL + ns.length) c7] rfl rfl _ _ HT8.out.br (by kernel_rfl) rfl house_one ?_)
              | fail)
            have HTR := Lib.hid (HT8.out.row (c := #[.string nm, .slice aK Mk.length cK, .slice a7 (uL + ns.length) c7]))
            ((try simp only [Exit.inBlock, Exit.then]); refine bodyPost_ret (results_row_tmp partRes _ _ (w.heap.size + 1) _ _ (0, 0) _ (.int .i64 0) rfl rfl HTR.out.br Tryz.underlying29 rfl (by kernel_rfl)) rfl ?_)
            refine ⟨HTR.out.bel, _, rfl, ?_⟩
            rw [HPHE.out]
            have HK8 : Keep (fun b => b = w.heap.size ∨ b = w.heap.size + 1) wr ((w7.setCell ⟨w.heap.size, 2, none⟩ (.slice a7 (uL + ns.length) c7)).setRow (w.heap.size + 1) #[.string nm, .slice aK Mk.length cK, .slice a7 (uL + ns.length) c7]) :=
              ((Keep.of_below HB7.out).trans ((set_keep _ _ _ _).mono fun _ _ e => .inl e) fun _ _ e => e).trans ((setRow_keep _ _ _).mono fun _ _ e => .inr e) fun _ _ e => e
            have HK7 : Keep (fun b => b = w.heap.size ∨ b = w.heap.size + 1) w7 ((w7.setCell ⟨w.heap.size, 2, none⟩ (.slice a7 (uL + ns.length) c7)).setRow (w.heap.size + 1) #[.string nm, .slice aK Mk.length cK, .slice a7 (uL + ns.length) c7]) :=
              ((set_keep _ _ _ _).mono fun _ _ e => .inl e).trans ((setRow_keep _ _ _).mono fun _ _ e => .inr e) fun _ _ e => e
            refine ⟨Mk, _, _, by rw [← HNN.out], HKL.out, own_rvs (ownsRow_keep HOK2.out HK8 (fun b hb e => by have := (HOK2.out.lt b hb).1; omega)) rfl, fun y hy => ?_, ?_⟩
            · rcases HYK.out y hy with e | e
              · exact Sl.below e HTR.out.bel (Nat.le_refl _)
              · exact own_lots (ownsRow_keep e HK8 (fun q hq e' => by have := (e.lt q hq).1; omega)) rfl
            have h7 := own_strs (l := h.used ++ ns) (w := w7) (B := wr.heap.size) (v := .slice a7 (uL + ns.length) c7) (n := uL + ns.length) (by have := HO7.out; simpa [strCells] using this) (by rw [List.length_append, ← HUU.out])
            exact h7.keep HK7 (fun b hb e => by have h1 := (HO7.out.lt b hb).1; have := HTK2.out.lt; omega)
end Go.Proofs.YticnmmfiadpbbaaGreat.Sc
