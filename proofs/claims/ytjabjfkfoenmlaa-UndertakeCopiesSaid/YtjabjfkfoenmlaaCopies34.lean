/- The statement UndertakeCopies: what happens to a copy does not happen to the life that it was made of, nor the other way round; no condition. -/
import Derived.Test.YtjabjfkfoenmlaaEven34
import Derived.Test.YtjabjfkfoenmlaaCopy34
import Derived.ChangeMaps5
namespace Go.Proofs.Ytjabjfkfoenmlaa.undertakeCopies
open Go.ChangeShapes Go.WideShapes Go.ChangeAt Go.RowKit Go Sc
set_option maxRecDepth 100000

/-- Lives run on. -/
def runL (l : Lf) (es : List Ev) : Lf := es.foldl (fun l e => (l.step e).2) l
def runR (x : Lf) (es : List Ev) : Lf := es.foldl (fun x e => (x.stepR e).2) x
theorem runL_take (l : Lf) (es : List Ev) (k : Nat) (h : k < es.length) : runL l (es.take (k + 1)) = ((runL l (es.take k)).step es[k]).2 := by
  rw [runL, List.take_succ_eq_append_getElem h, List.foldl_append]; rfl
theorem runR_take (l : Lf) (es : List Ev) (k : Nat) (h : k < es.length) : runR l (es.take (k + 1)) = ((runR l (es.take k)).stepR es[k]).2 := by
  rw [runR, List.take_succ_eq_append_getElem h, List.foldl_append]; rfl
theorem run_good {c : Cr} : ∀ (es : List Ev) {l : Lf}, l.good c → (runL l es).good c
  | [], _, h => h
  | e :: r, _, h => run_good r (step_good h e)
theorem run_len : ∀ (es : List Ev) (l : Lf), (runL l es).evs.length ≤ l.evs.length + es.length ∧ (runL l es).paid.length ≤ l.paid.length + es.length
  | [], l => by simp [runL]
  | e :: r, l => by
    have h1 := run_len r (l.step e).2
    have h2 := step_len l e
    have h3 : runL l (e :: r) = runL (l.step e).2 r := rfl
    rw [h3, List.length_cons]
    omega
theorem run_sim {c : Cr} : ∀ (es : List Ev) {l x : Lf}, l.good c → Sim l x → Sim (runL l es) (runR x es)
  | [], _, _, _, h => h
  | e :: r, _, _, g, h => run_sim r (step_good g e) (sim_step h g.s0 g.s7 e).2

def YX (w : World) (bx : Nat) (x : Lf) (by' : Nat) (y : Lf) (Gx O : Nat → Prop) : Prop := ∃ Fy : Nat → Prop, Lv w 65 Fy by' y ∧ Lv w 65 Gx bx x ∧ ¬ Gx by' ∧ ∀ b, O b ↔ (Fy b ∨ Gx b)
theorem yx_range {bx by' : Nat} {x y : Lf} {Gx : Nat → Prop} {A : Value → (Nat → Prop) → Prop} : ∀ (_ : Operand → Value) (v : Value) (O : Nat → Prop) (w : World), (A v O ∧ YX w bx x by' y Gx O) → ∀ b, O b → b < w.heap.size := by
  rintro _ v O w ⟨-, F, h1, h2, -, h4⟩ b hb
  exact ((h4 b).1 hb).elim (h1.lt b) (h2.lt b)
theorem yx_keep {bx by' : Nat} {x y : Lf} {Gx : Nat → Prop} {A : Value → (Nat → Prop) → Prop} {H : Nat → Prop} {w0 : World} : ∀ (_ : Operand → Value) (v : Value) (O : Nat → Prop) (w w' : World), (A v O ∧ YX w bx x by' y Gx O) → Keep H w0 w → Keep H w0 w' → w.heap.size ≤ w'.heap.size → (∀ b, O b → w'.heap[b]? = w.heap[b]?) → (A v O ∧ YX w' bx x by' y Gx O) := by
  rintro _ v O w w' ⟨h0, F, h1, h2, h3, h4⟩ k1 k2 hs hk
  exact ⟨h0, F, h1.stands k1 k2 hs (fun b hb => hk b ((h4 b).2 (.inl hb))), h2.stands k1 k2 hs (fun b hb => hk b ((h4 b).2 (.inr hb))), h3, h4⟩

/-- All four lives in memory. -/
structure St (w0 w2 w : World) (bk bx bb by' : Nat) (l x b y : Lf) (Fa Gx Fb Fy : Nat → Prop) : Prop where
  lb : Lv w 74 Fb bb b
  ly : Lv w 65 Fy by' y
  lx : Lv w 65 Gx bx x
  la : Lv w 74 Fa bk l
  hby : ∀ k, Fb k → ¬ Fy k
  hfb : ∀ k, Fb k → w2.heap.size ≤ k
  hay : ∀ k, Fa k → ¬ Fy k
  hnx : ¬ Gx by'
  sz : w2.heap.size ≤ w.heap.size
  bel : Below w0.heap.size w0 w
  hyw : ∀ k, Fy k → w0.heap.size ≤ k

theorem lf_infoR : (Try.prog.info? 65).map (·.size) = some 25 := by kernel_rfl

set_option maxHeartbeats 8000000 in
theorem walk_yes (w : World) (t : Tm) (l more : List Ev) (v v2 : Value) (party : ByteArray) (hs : Sl w 4 v (l.map Ev.row)) (hsm : Sl w 4 v2 (more.map Ev.row)) (hft : ∀ e ∈ l, e.fit) (hfm : ∀ e ∈ more, e.fit) (hlo : t.long = false) (hhe : heavy l 20 = false) (hhm : heavy more 8 = false) (hpa : party.size ≤ 100) (hli : t.cr.lives = true) :
    Calls Try.prog 9 #[.agg t.cells, v, v2, .string party] w (RetB w true) := by
  obtain ⟨a, c, rfl⟩ : ∃ a c, v = .slice a l.length c := by simpa using hs.shape
  obtain ⟨a2, c2, rfl⟩ : ∃ a c, v2 = .slice a more.length c := by simpa using hsm.shape
  obtain ⟨w0, hw0⟩ : ∃ x, x = w.alloc (.cells t.cells 23) := ⟨_, rfl⟩
  have HX : Hid (w0.heap[w.heap.size]? = some (.cells t.cells 23 (0, 0))) := Lib.hid (hw0 ▸ heap_alloc_new _ _)
  have HB0 : Hid (Below w.heap.size w w0) := Lib.hid (hw0 ▸ one_below _ _)
  have HS := Lib.hid (hs.below HB0.out (Nat.le_refl _))
  have HM := Lib.hid (hsm.below HB0.out (Nat.le_refl _))
  have LO := Lib.hid (fun W => long_any t W)
  have HE := Lib.hid (fun (W : World) (h : Sl W 4 (.slice a l.length c) (l.map Ev.row)) => heavy_any l 20 _ W h)
  have HEM := Lib.hid (fun (W : World) (h : Sl W 4 (.slice a2 more.length c2) (more.map Ev.row)) => heavy_any more 8 _ W h)
  have CR := Lib.hid (fun W => credit_any t W)
  have MA := Lib.hid (fun W => refMay34_any t W hlo)
  have HLV := Lib.hid (lives_iff hli)
  have HL40 : Hid (l.length ≤ 20 ∧ more.length ≤ 8) := Lib.hid (by have := (heavy_no hhe).1; have := (heavy_no hhm).1; omega)
  have hl40 : (l.length : Int) ≤ 20 := by have := HL40.out; omega
  have hl8 : (more.length : Int) ≤ 8 := by have := HL40.out; omega
  have tp : decide ((100 : Int) < (party.size : Int)) = false := decide_eq_false (by omega)
  have GR := Lib.hid (fun (W : World) (h : Sl W 4 (.slice a l.length c) (l.map Ev.row)) => grown_any t l _ W h (by have := HL40.out; omega) hft hli)
  have HFT := Lib.hid hfm
  have HLN0 : Hid ((lifeOf t.cr l).evs.length ≤ 20 ∧ (lifeOf t.cr l).paid.length ≤ 20) := Lib.hid (by have := lifeOf_len t.cr l; have := HL40.out; omega)
  have HG0 : Hid ((lifeOf t.cr l).good t.cr) := Lib.hid (lifeOf_good t.cr l)
  have HS0 : Hid (Sim (lifeOf t.cr l) (lifeOfR t.cr l)) := Lib.hid (by have := sim_life t.cr l l.length; rwa [List.take_of_length_le (Nat.le_refl _)] at this)
  rw [hlo] at LO
  rw [hhe] at HE
  rw [hhm] at HEM
  rw [hli] at MA
  clear hs hsm hlo hhe hhm hli hft hfm hpa
  generalize lifeOf t.cr l = la at *
  generalize lifeOfR t.cr l = x at *
  go_enter Try.func9, Try.ntmps9
  go_wp2_with fail
  rw [← hw0]
  clear hw0
  go_wp2_with (first
    | ((with_reducible refine (awake_any _).mono ?_); rintro e w1 ⟨rfl, hb1⟩; have HX1 := Lib.hid (blk hb1 (lt_blk HX.out) HX.out); have HS1 := Lib.hid (HS.out.below hb1 (Nat.le_refl _)); have HM1 := Lib.hid (HM.out.below hb1 (Nat.le_refl _)); have HB1 := Lib.hid hb1; clear hb1)
    | (refine load_tm (.tmp 4) w.heap.size t rfl rfl HX1.out ?_)
    | ((with_reducible refine (LO.out _).mono ?_); rintro e w2 ⟨rfl, hb2⟩; have HX1 := Lib.hid (blk hb2 (lt_blk HX1.out) HX1.out); have HS1 := Lib.hid (HS1.out.below hb2 (Nat.le_refl _)); have HM1 := Lib.hid (HM1.out.below hb2 (Nat.le_refl _)); have HB1 := Lib.hid (below_then HB1.out hb2); clear hb2)
    | ((with_reducible refine (HE.out _ HS1.out).mono ?_); rintro e w3 ⟨rfl, hb3⟩; have HX1 := Lib.hid (blk hb3 (lt_blk HX1.out) HX1.out); have HS1 := Lib.hid (HS1.out.below hb3 (Nat.le_refl _)); have HM1 := Lib.hid (HM1.out.below hb3 (Nat.le_refl _)); have HB1 := Lib.hid (below_then HB1.out hb3); clear hb3)
    | ((with_reducible refine (HEM.out _ HM1.out).mono ?_); rintro e w9 ⟨rfl, hb9⟩; have HX1 := Lib.hid (blk hb9 (lt_blk HX1.out) HX1.out); have HS1 := Lib.hid (HS1.out.below hb9 (Nat.le_refl _)); have HM1 := Lib.hid (HM1.out.below hb9 (Nat.le_refl _)); have HB1 := Lib.hid (below_then HB1.out hb9); clear hb9)
    | ((with_reducible refine (CR.out _).mono ?_); rintro e w4 ⟨rfl, hb4⟩; have HX1 := Lib.hid (blk hb4 (lt_blk HX1.out) HX1.out); have HS1 := Lib.hid (HS1.out.below hb4 (Nat.le_refl _)); have HM1 := Lib.hid (HM1.out.below hb4 (Nat.le_refl _)); have HB1 := Lib.hid (below_then HB1.out hb4); clear hb4)
    | ((with_reducible refine (MA.out _).mono ?_); rintro e w5 ⟨rfl, hb5⟩; have HX1 := Lib.hid (blk hb5 (lt_blk HX1.out) HX1.out); have HS1 := Lib.hid (HS1.out.below hb5 (Nat.le_refl _)); have HM1 := Lib.hid (HM1.out.below hb5 (Nat.le_refl _)); have HB1 := Lib.hid (below_then HB1.out hb5); clear hb5)
    | ((with_reducible refine (GR.out _ HS1.out).mono ?_); rintro e w2 ⟨bk, bx, rfl, Fa, Gx, hl2, hx2, hFa, hGx, hFG, hb2⟩; have HLA := Lib.hid hl2; have HLX := Lib.hid hx2; have HFA : Hid (∀ k, Fa k → w0.heap.size ≤ k) := Lib.hid (fun k hk => Nat.le_trans HB1.out.size (hFa k hk)); have HXW : Hid (∀ k, Gx k → w0.heap.size ≤ k) := Lib.hid (fun k hk => Nat.le_trans HB1.out.size (hGx k hk)); have HAX := Lib.hid hFG; have HB2 := Lib.hid (below_then HB1.out hb2); clear hl2 hx2 hFa hGx hFG hb2)
    | ((with_reducible refine (copy_any bk la Fa _ HLA.out (by have := HLN0.out; omega) (by have := HLN0.out; omega)).mono ?_); rintro e w4 ⟨bb, rfl, hb4, Fb, hl4, hF4⟩; have HLB := Lib.hid hl4; have HFB := Lib.hid hF4; have HB4 := Lib.hid hb4; clear hb4 hl4 hF4; obtain ⟨vp, ve, hxw⟩ := HLX.out.below HB4.out; obtain ⟨pa, pc, hvp⟩ := ownsRow_shape hxw.paid; obtain ⟨ea, ec, hve⟩ := ownsRow_shape hxw.evs; have HONE := Lib.hid (lf_one x (vp := vp) (ve := ve) (by rw [hvp]; rfl) (by rw [hve]; rfl)); clear hvp hve; have HXW4 := Lib.hid hxw; have HBX : Hid (w4.heap[bx]? = some (.cells (x.cells vp ve) 65 (0, 0))) := Lib.hid hxw.box; have HZ : Hid ((w4.alloc (.cells zeroLf 65)).heap[w4.heap.size]? = some (.cells zeroLf 65 (0, 0))) := Lib.hid (heap_alloc_new _ _); obtain ⟨w5, hw5⟩ : ∃ y, y = w4.alloc (.cells (x.cells vp ve) 65) := ⟨_, rfl⟩; have HB5 : Hid (Below w4.heap.size w4 w5) := Lib.hid (hw5 ▸ one_below _ _); have HC5 : Hid (w5.heap[w4.heap.size]? = some (.cells (x.cells vp ve) 65 (0, 0))) := Lib.hid (hw5 ▸ heap_alloc_new _ _); have HW5 := Lib.hid hw5; clear hxw hw5)
    | (refine wpList_load_row (P := Try.prog) rfl 65 (.tmp 50) rfl bx rfl _ _ _ _ HBX.out Try.underlying65 rfl (by rw [lf_infoR]; rfl) ?_)
    | (refine wpList_store_row (P := Try.prog) rfl 65 (.tmp 13) (.tmp 51) rfl w4.heap.size (x.cells vp ve) rfl rfl _ zeroLf HZ.out (by rw [lf_infoR]; rfl) rfl HONE.out ?_; rw [setRow_new, ← HW5.out])
    | fail)
  obtain ⟨by', hby⟩ : ∃ b, b = w4.heap.size := ⟨_, rfl⟩
  have hsz24 : w2.heap.size ≤ w4.heap.size := HB4.out.size
  have HST0 : Hid (St w0 w2 w5 bk bx bb by' la x la x Fa Gx Fb (fun k => k = by' ∨ Gx k)) := Lib.hid (by
    have l5 := HXW4.out.below HB5.out
    have hlt : ∀ k, Gx k → k < w2.heap.size := HLX.out.lt
    have hla : ∀ k, Fa k → k < w2.heap.size := HLA.out.lt
    refine ⟨HLB.out.below HB5.out, ⟨vp, ve, hby ▸ HC5.out, l5.paid, l5.evs, fun g hg => .inr (l5.fp g hg), fun g hg => .inr (l5.fe g hg), .inl rfl, ?_⟩, (HLX.out.below HB4.out).below HB5.out, (HLA.out.below HB4.out).below HB5.out, ?_, HFB.out, ?_, ?_, ?_, ?_, ?_⟩
    · rintro k (rfl | h)
      · rw [hby]; exact lt_blk HC5.out
      · exact l5.lt k h
    · rintro k hk (rfl | h)
      · have := HLB.out.lt _ hk; omega
      · have := HFB.out k hk; have := hlt k h; omega
    · rintro k hk (rfl | h)
      · have := hla _ hk; omega
      · exact HAX.out k hk h
    · intro h; have := hlt _ h; omega
    · exact Nat.le_trans hsz24 HB5.out.size
    · exact HB2.out.trans ((HB4.out.trans (HB5.out.mono HB4.out.size)).mono HB2.out.size)
    · rintro k (rfl | h)
      · have := HB2.out.size; omega
      · exact HXW.out k h)
  have HW02 : Hid (w0.heap.size ≤ w2.heap.size) := Lib.hid HB2.out.size
  have HXB : Hid (∀ k, Gx k → k < w2.heap.size) := Lib.hid HLX.out.lt
  have HLAlt : Hid (∀ k, Fa k → k < w2.heap.size) := Lib.hid HLA.out.lt
  clear hsz24
  rw [← hby]
  clear hby tp
  go_loopw [14] (fun i wr => ∃ (k : Nat) (Fb Fy : Nat → Prop), k ≤ more.length ∧ i = .int .i64 k ∧ St w0 w2 wr bk bx bb by' la x (runL la (more.take k)) (runR x (more.take k)) Fa Gx Fb Fy) (fun i _ => more.length - (intOf i).toNat)
  case atStart => exact ⟨0, Fb, _, Nat.zero_le _, rfl, HST0.out⟩
  case round =>
    obtain ⟨k, Fb, Fy, hk, rfl, hst⟩ := hrel
    have HSTK := Lib.hid hst
    have hgk := run_good (more.take k) HG0.out
    have hsk := run_sim (more.take k) HG0.out HS0.out
    have hlk : (runL la (more.take k)).evs.length ≤ 28 ∧ (runL la (more.take k)).paid.length ≤ 28 := by
      have h1 := run_len (more.take k) la
      have h2 := HLN0.out
      have h3 := HL40.out.2
      simp at h1
      omega
    by_cases hlt : k < more.length
    · obtain ⟨b, off, rfl, -, hb, hc⟩ := HM.out.at (i := k) (by simpa using hlt)
      have hr := hc k more[k].row (by simp [hlt])
      have HD : Hid (∀ W, Keep (fun b => Fb b ∨ (Fy b ∨ Gx b)) wr W → W.cell? ⟨b, off + k * 4, none⟩ = some (.int .i64 more[k].kind) ∧ W.cell? ⟨b, off + k * 4 + 1, none⟩ = some (.string more[k].party) ∧ W.cell? ⟨b, off + k * 4 + 2, none⟩ = some (.int .i64 more[k].day) ∧ W.cell? ⟨b, off + k * 4 + 3, none⟩ = some (.int .i64 more[k].amt)) := Lib.hid (fun W h => by
        have hbel := HSTK.out.bel
        have hwb : b < wr.heap.size := Nat.lt_of_lt_of_le hb hbel.size
        have hno : ¬ (Fb b ∨ (Fy b ∨ Gx b)) := fun h => by
          have hw := HW02.out
          rcases h with h | h | h
          · have := HSTK.out.hfb b h; omega
          · have := HSTK.out.hyw b h; omega
          · have := HXW.out b h; omega
        exact ⟨(h.cell (b := b) (o := off + k * 4) hwb hno).trans ((hbel.cell (p := ⟨b, off + k * 4, none⟩) hb).trans (hr 0 _ rfl)), (h.cell (b := b) (o := off + k * 4 + 1) hwb hno).trans ((hbel.cell (p := ⟨b, off + k * 4 + 1, none⟩) hb).trans (hr 1 _ rfl)),
          (h.cell (b := b) (o := off + k * 4 + 2) hwb hno).trans ((hbel.cell (p := ⟨b, off + k * 4 + 2, none⟩) hb).trans (hr 2 _ rfl)), (h.cell (b := b) (o := off + k * 4 + 3) hwb hno).trans ((hbel.cell (p := ⟨b, off + k * 4 + 3, none⟩) hb).trans (hr 3 _ rfl))⟩)
      have HT := Lib.hid (runL_take la more k hlt)
      have HTX := Lib.hid (runR_take x more k hlt)
      obtain ⟨hxf, hxe, hxp⟩ := sim_fit HLV.out hgk hsk
      have DOP := Lib.hid (fun W F (h : Lv W 74 F bb (runL la (more.take k))) => doP_any bb _ F more[k] W h hgk.s0 hgk.s7 (by omega) (by omega))
      have DOY := Lib.hid (fun W F (h : Lv W 65 F by' (runR x (more.take k))) => doRR_any by' _ F more[k] W h hxf (by rw [hxp]; omega) (by rw [hxe]; omega) (HFT.out _ (List.getElem_mem hlt)))
      obtain ⟨hcd, -⟩ := sim_step hsk hgk.s0 hgk.s7 more[k]
      unfold Ev.cells at DOP DOY
      have HLB := Lib.hid hst.lb
      have HLY := Lib.hid hst.ly
      have HLX := Lib.hid hst.lx
      have HLA := Lib.hid hst.la
      have HBY := Lib.hid hst.hby
      have HFB := Lib.hid hst.hfb
      have HAY := Lib.hid hst.hay
      have HNX := Lib.hid hst.hnx
      have HSZ := Lib.hid hst.sz
      have HBK := Lib.hid hst.bel
      have HYW := Lib.hid hst.hyw
      have HOY : Hid (Fy by') := Lib.hid (by obtain ⟨_, _, h⟩ := hst.ly; exact h.own)
      have HBX : Hid (∀ b, Fb b → ¬ Gx b) := Lib.hid (fun b h e => by have := hst.hfb b h; have := HXB.out b e; omega)
      have HAB : Hid (∀ b, Fa b → ¬ Fb b) := Lib.hid (fun b h e => by have := hst.hfb b e; have := HLAlt.out b h; omega)
      clear hr hc hst hxf hxe hxp hsk hgk hlk
      generalize hx : more[k] = ev at *
      generalize runL la (more.take k) = lk at *
      generalize runR x (more.take k) = xk at *
      generalize lk.step ev = st at *
      generalize xk.stepR ev = sx at *
      obtain ⟨c0, b1⟩ := st
      obtain ⟨cd, y1⟩ := sx
      simp only at hcd
      subst hcd
      clear hx
      go_wp2_with fail
      refine Ord.region_lit (fun
        | 0 => Ord.val (.pointer (some ⟨bb, 0, none⟩))
        | 1 => Ord.val (.slice (some ⟨b, off, none⟩) more.length c2)
        | 2 => Ord.val (.int .i64 k)
        | 3 => Ord.val (.pointer (some ⟨b, off + k * 4, none⟩))
        | 4 => Ord.val (.agg #[.int .i64 ev.kind, .string ev.party, .int .i64 ev.day, .int .i64 ev.amt])
        | 5 => ⟨fun _ v O w => (v = .int .i64 cd ∧ ∀ k, O k → Fb k ∨ wr.heap.size ≤ k) ∧ Lv w 74 O bb b1, [], Fb⟩
        | 6 => Ord.val (.slice (some ⟨b, off, none⟩) more.length c2)
        | 7 => Ord.val (.int .i64 k)
        | 8 => Ord.val (.pointer (some ⟨b, off + k * 4, none⟩))
        | 9 => Ord.val (.agg #[.int .i64 ev.kind, .string ev.party, .int .i64 ev.day, .int .i64 ev.amt])
        | 10 => ⟨fun _ v O w => (v = .int .i64 cd ∧ ∀ k, O k → (Fy k ∨ Gx k) ∨ wr.heap.size ≤ k) ∧ YX w bx x by' y1 Gx O, [], fun b => Fy b ∨ Gx b⟩
        | 11 => Ord.val (.bool false)
        | _ => Ord.idle) (fun b => Fb b ∨ (Fy b ∨ Gx b)) (by kernel_rfl) (by kernel_rfl) (by kernel_rfl) ?_ ?_ ?_ ?_
      · intro i _
        match i with
        | 0 => exact Ord.lasts_val _
        | 1 => exact Ord.lasts_val _
        | 2 => exact Ord.lasts_val _
        | 3 => exact Ord.lasts_val _
        | 4 => exact Ord.lasts_val _
        | 5 => exact ⟨fun ρ v O w h b hb => h.2.lt b hb, fun ρ v O w w' h h1 h2 h3 h4 => ⟨h.1, h.2.stands h1 h2 h3 h4⟩⟩
        | 6 => exact Ord.lasts_val _
        | 7 => exact Ord.lasts_val _
        | 8 => exact Ord.lasts_val _
        | 9 => exact Ord.lasts_val _
        | 10 => exact ⟨yx_range, yx_keep⟩
        | 11 => exact Ord.lasts_val _
        | n + 12 => exact Ord.lasts_idle
      · refine ⟨fun k b _ hh => ?_, fun k b _ hh => ?_, fun k k' b _ _ hne h1 h2 => ?_⟩
        · match k, hh with
          | 0, hh => exact hh.elim
          | 1, hh => exact hh.elim
          | 2, hh => exact hh.elim
          | 3, hh => exact hh.elim
          | 4, hh => exact hh.elim
          | 5, hh => exact .inl hh
          | 6, hh => exact hh.elim
          | 7, hh => exact hh.elim
          | 8, hh => exact hh.elim
          | 9, hh => exact hh.elim
          | 10, hh => exact .inr hh
          | 11, hh => exact hh.elim
          | m + 12, hh => exact hh.elim
        · match k, hh with
          | 0, hh => exact hh.elim
          | 1, hh => exact hh.elim
          | 2, hh => exact hh.elim
          | 3, hh => exact hh.elim
          | 4, hh => exact hh.elim
          | 5, hh => exact HLB.out.lt b hh
          | 6, hh => exact hh.elim
          | 7, hh => exact hh.elim
          | 8, hh => exact hh.elim
          | 9, hh => exact hh.elim
          | 10, hh => exact hh.elim (HLY.out.lt b) (HLX.out.lt b)
          | 11, hh => exact hh.elim
          | m + 12, hh => exact hh.elim
        · have a : (k = 5 ∧ (Fb) b) ∨ (k = 10 ∧ (fun b => Fy b ∨ Gx b) b) := by
            match k, h1 with
            | 0, hh => exact hh.elim
            | 1, hh => exact hh.elim
            | 2, hh => exact hh.elim
            | 3, hh => exact hh.elim
            | 4, hh => exact hh.elim
            | 5, hh => exact .inl ⟨rfl, hh⟩
            | 6, hh => exact hh.elim
            | 7, hh => exact hh.elim
            | 8, hh => exact hh.elim
            | 9, hh => exact hh.elim
            | 10, hh => exact Or.inr (⟨rfl, hh⟩)
            | 11, hh => exact hh.elim
            | m + 12, hh => exact hh.elim
          have a' : (k' = 5 ∧ (Fb) b) ∨ (k' = 10 ∧ (fun b => Fy b ∨ Gx b) b) := by
            match k', h2 with
            | 0, hh => exact hh.elim
            | 1, hh => exact hh.elim
            | 2, hh => exact hh.elim
            | 3, hh => exact hh.elim
            | 4, hh => exact hh.elim
            | 5, hh => exact .inl ⟨rfl, hh⟩
            | 6, hh => exact hh.elim
            | 7, hh => exact hh.elim
            | 8, hh => exact hh.elim
            | 9, hh => exact hh.elim
            | 10, hh => exact Or.inr (⟨rfl, hh⟩)
            | 11, hh => exact hh.elim
            | m + 12, hh => exact hh.elim
          rcases a with ⟨rfl, a⟩ | ⟨rfl, a⟩ <;> rcases a' with ⟨rfl, a'⟩ | ⟨rfl, a'⟩
          all_goals first | exact absurd rfl hne | (first | exact a'.elim (HBY.out _ a) (HBX.out _ a) | exact a.elim (HBY.out _ a') (HBX.out _ a'))
      · refine ⟨?_, ?_, ?_, ?_, ?_, ?_, ?_, ?_, ?_, ?_, ?_, ?_, trivial⟩
        · refine Ord.owes_plain rfl fun ρ Os wo hs' hb hc' => ?_
          have h12 : ρ (.tmp 12) = .pointer (some ⟨bb, 0, none⟩) := hs'.old' 12 (by kernel_rfl)
          exact Any.ok_move (Ord.post_val rfl h12)
        · refine Ord.owes_plain rfl fun ρ Os wo hs' hb hc' => ?_
          have h2 : ρ (.tmp 2) = .slice (some ⟨b, off, none⟩) more.length c2 := hs'.old' 2 (by kernel_rfl)
          exact Any.ok_move (Ord.post_val rfl h2)
        · refine Ord.owes_plain rfl fun ρ Os wo hs' hb hc' => ?_
          have h14 : ρ (.tmp 14) = .int .i64 k := hs'.old' 14 (by kernel_rfl)
          exact Any.ok_move (Ord.post_val rfl h14)
        · refine Ord.owes_plain rfl fun ρ Os wo hs' hb hc' => ?_
          have h59 : ρ (.tmp 59) = .slice (some ⟨b, off, none⟩) more.length c2 := hs'.val' 59 1 (by kernel_rfl) rfl
          have h60 : ρ (.tmp 60) = .int .i64 k := hs'.val' 60 2 (by kernel_rfl) rfl
          go_simp
          exact Ord.post_val rfl rfl
        · refine Ord.owes_plain rfl fun ρ Os wo hs' hb hc' => ?_
          have h61 : ρ (.tmp 61) = .pointer (some ⟨b, off + k * 4, none⟩) := hs'.val' 61 3 (by kernel_rfl) rfl
          have c0 := (HD.out wo hb.undrew).1
          have c1 := (HD.out wo hb.undrew).2.1
          have c2 := (HD.out wo hb.undrew).2.2.1
          have c3 := (HD.out wo hb.undrew).2.2.2
          go_simp
          exact Ord.post_val rfl rfl
        · refine Ord.owes_plain rfl fun ρ Os wo hs' hb hc' => ?_
          have h58 : ρ (.tmp 58) = .pointer (some ⟨bb, 0, none⟩) := hs'.val' 58 0 (by kernel_rfl) rfl
          have h62 : ρ (.tmp 62) = .agg #[.int .i64 ev.kind, .string ev.party, .int .i64 ev.day, .int .i64 ev.amt] := hs'.val' 62 4 (by kernel_rfl) rfl
          have hf := hs'.func 16
          go_simp
          exact (DOP.out wo Fb (HLB.out.stands (Keep.refl _ _) hb.undrew hb.size hs'.here)).mono fun e w' ⟨he, hk', F', hl', hF'⟩ => ⟨_, he, Ord.post_turn ⟨⟨rfl, fun k h => (hF' k h).imp id (fun h => Nat.le_trans hb.size h)⟩, hl'⟩ hk' hF'⟩
        · refine Ord.owes_plain rfl fun ρ Os wo hs' hb hc' => ?_
          have h2 : ρ (.tmp 2) = .slice (some ⟨b, off, none⟩) more.length c2 := hs'.old' 2 (by kernel_rfl)
          exact Any.ok_move (Ord.post_val rfl h2)
        · refine Ord.owes_plain rfl fun ρ Os wo hs' hb hc' => ?_
          have h14 : ρ (.tmp 14) = .int .i64 k := hs'.old' 14 (by kernel_rfl)
          exact Any.ok_move (Ord.post_val rfl h14)
        · refine Ord.owes_plain rfl fun ρ Os wo hs' hb hc' => ?_
          have h64 : ρ (.tmp 64) = .slice (some ⟨b, off, none⟩) more.length c2 := hs'.val' 64 6 (by kernel_rfl) rfl
          have h65 : ρ (.tmp 65) = .int .i64 k := hs'.val' 65 7 (by kernel_rfl) rfl
          go_simp
          exact Ord.post_val rfl rfl
        · refine Ord.owes_plain rfl fun ρ Os wo hs' hb hc' => ?_
          have h66 : ρ (.tmp 66) = .pointer (some ⟨b, off + k * 4, none⟩) := hs'.val' 66 8 (by kernel_rfl) rfl
          have c0 := (HD.out wo hb.undrew).1
          have c1 := (HD.out wo hb.undrew).2.1
          have c2 := (HD.out wo hb.undrew).2.2.1
          have c3 := (HD.out wo hb.undrew).2.2.2
          go_simp
          exact Ord.post_val rfl rfl
        · refine Ord.owes_plain rfl fun ρ Os wo hs' hb hc' => ?_
          have h13 : ρ (.tmp 13) = .pointer (some ⟨by', 0, none⟩) := hs'.old' 13 (by kernel_rfl)
          have h67 : ρ (.tmp 67) = .agg #[.int .i64 ev.kind, .string ev.party, .int .i64 ev.day, .int .i64 ev.amt] := hs'.val' 67 9 (by kernel_rfl) rfl
          have hf := hs'.func 28
          go_simp
          exact (DOY.out wo Fy (HLY.out.stands (Keep.refl _ _) hb.undrew hb.size (fun b h => hs'.here b (.inl h)))).mono fun e w' ⟨he, hk', F', hl', hF'⟩ => ⟨_, he, Ord.post_turn (O := fun b => F' b ∨ Gx b) ⟨⟨rfl, fun k h => h.elim (fun h => (hF' k h).imp .inl (fun h => Nat.le_trans hb.size h)) (fun h => .inl (.inr h))⟩, F', hl', (HLX.out.stands (Keep.refl _ _) hb.undrew hb.size (fun b h => hs'.here b (.inr h))).keep hk' (fun b hb e => HNX.out (e ▸ hb)), HNX.out, fun _ => Iff.rfl⟩ (hk'.mono (fun i _ h => .inl (h ▸ HOY.out))) (fun b hb => hb.elim (fun h => (hF' b h).elim (fun h => .inl (.inl h)) .inr) (fun h => .inl (.inr h)))⟩
        · refine Ord.owes_plain rfl fun ρ Os wo hs' hb hc' => ?_
          obtain ⟨-, ⟨e1, -⟩, -⟩ := hs'.new' 63 5 (by kernel_rfl)
          obtain ⟨-, ⟨e2, -⟩, -⟩ := hs'.new' 68 10 (by kernel_rfl)
          go_simp
          exact Ord.post_val rfl rfl
      · intro vals Os ρs w3 hk hkn hln hap hbd
        have h11 := (hkn 11 (by kernel_rfl)).1
        obtain ⟨⟨-, hb5⟩, hl5⟩ := hkn 5 (by kernel_rfl)
        obtain ⟨⟨-, hb10⟩, Fy1, ly1, lx1, hnx1, hO1⟩ := hkn 10 (by kernel_rfl)
        have hap5 := hap 5 10 (by kernel_rfl)
        have HST : Hid (St w0 w2 w3 bk bx bb by' la x b1 y1 Fa Gx (Os 5) Fy1) := Lib.hid
          ⟨hl5, ly1, lx1, HLA.out.keep hk (fun b hb h => h.elim (fun h => HAB.out b hb h) (fun h => h.elim (HAY.out b hb) (HAX.out b hb))), fun b h e => hap5 b h ((hO1 b).2 (.inl e)), fun b hb => (hb5 b hb).elim (HFB.out b) (fun h => Nat.le_trans HSZ.out h),
           fun b hb h => ((hb10 b ((hO1 b).2 (.inl h))).elim (fun h => h.elim (HAY.out b hb) (HAX.out b hb)) (fun h => by have := HLA.out.lt b hb; omega)), hnx1, Nat.le_trans HSZ.out hk.size,
           hk.behind HBK.out HBK.out.size (fun b hlt h => by
             have hw := HW02.out
             rcases h with h | h | h
             · have := HFB.out b h; omega
             · have := HYW.out b h; omega
             · have := HXW.out b h; omega), fun b hb => ((hb10 b ((hO1 b).2 (.inl hb))).elim (fun h => h.elim (HYW.out b) (HXW.out b)) (fun h => Nat.le_trans HBK.out.size h))⟩
        clear hkn hln hap hbd hl5 hb5 hb10 ly1 lx1 hnx1 hO1 hap5
        simp only [Any.putAll]
        go_frame
        simp only [Nat.zero_add, Nat.reduceAdd]
        rw [h11]
        go_wp2_with fail
        go_roundw
        case rel => exact ⟨k + 1, Os 5, Fy1, by omega, by go_num, by rw [HT.out, HTX.out]; exact HST.out⟩
        case measure => (simp [intOf]) <;> omega
    · have hkl : k = more.length := by omega
      have hgk' := hgk
      have HE1 := Lib.hid (fun W (h : Below wr.heap.size wr W) => even_any bk bx t.cr la x Fa Gx party W (hst.la.below h) (hst.lx.below h) HLV.out HG0.out HS0.out (by have := HLN0.out; omega))
      have HE2 := Lib.hid (fun W (h : Below wr.heap.size wr W) => even_any bb by' t.cr _ _ Fb Fy party W (hst.lb.below h) (hst.ly.below h) HLV.out hgk hsk (by omega))
      have HBW := Lib.hid hst.bel
      clear hkl hst hgk hsk hlk hgk'
      go_wp2_with (first
        | ((with_reducible refine (HE1.out _ (Below.refl _ _)).mono ?_); rintro e w6 ⟨rfl, hb6⟩; have HB6 := Lib.hid hb6; clear hb6)
        | ((with_reducible refine (HE2.out _ HB6.out).mono ?_); rintro e w7 ⟨rfl, hb7⟩; have HB6 := Lib.hid (below_then HB6.out hb7); clear hb7)
        | fail)
      go_ret
      exact retB rfl (HB0.out.trans ((HBW.out.trans (HB6.out.mono HBW.out.size)).mono HB0.out.size))

theorem walk_no (w : World) (t : Tm) (l more : List Ev) (v v2 : Value) (party : ByteArray) (hs : Sl w 4 v (l.map Ev.row)) (hsm : Sl w 4 v2 (more.map Ev.row)) (h : (t.long || (heavy l 20 || (heavy more 8 || (decide (100 < party.size) || !t.cr.lives)))) = true) :
    Calls Try.prog 9 #[.agg t.cells, v, v2, .string party] w (RetB w true) := by
  have HX : Hid ((w.alloc (.cells t.cells 23)).heap[w.heap.size]? = some (.cells t.cells 23 (0, 0))) := Lib.hid (heap_alloc_new _ _)
  have HS := Lib.hid (hs.below (one_below w (.cells t.cells 23)) (Nat.le_refl _))
  have HM := Lib.hid (hsm.below (one_below w (.cells t.cells 23)) (Nat.le_refl _))
  have LO := Lib.hid (fun W => long_any t W)
  have HE := Lib.hid (fun (W : World) (h : Sl W 4 v (l.map Ev.row)) => heavy_any l 20 v W h)
  have HEM := Lib.hid (fun (W : World) (h : Sl W 4 v2 (more.map Ev.row)) => heavy_any more 8 v2 W h)
  have CR := Lib.hid (fun W => credit_any t W)
  clear hs hsm
  cases hlo : t.long
  · have MA := Lib.hid (fun W => refMay34_any t W hlo)
    cases hhe : heavy l 20
    · cases hhm : heavy more 8
      · by_cases hp : 100 < party.size
        · have tp : decide ((100 : Int) < (party.size : Int)) = true := decide_eq_true (by omega)
          rw [hlo] at LO
          rw [hhe] at HE
          rw [hhm] at HEM
          clear h hlo hhe hhm hp
          go_enter Try.func9, Try.ntmps9
          go_wp2_with (first
            | ((with_reducible refine (awake_any _).mono ?_); rintro e w1 ⟨rfl, hb1⟩; have HX1 := Lib.hid (blk hb1 (lt_blk HX.out) HX.out); have HS1 := Lib.hid (HS.out.below hb1 (Nat.le_refl _)); have HM1 := Lib.hid (HM.out.below hb1 (Nat.le_refl _)); have HB1 := Lib.hid (below_new hb1); clear hb1)
            | (refine load_tm (.tmp 4) w.heap.size t rfl rfl HX1.out ?_)
            | ((with_reducible refine (LO.out _).mono ?_); rintro e w2 ⟨rfl, hb2⟩; have HX1 := Lib.hid (blk hb2 (lt_blk HX1.out) HX1.out); have HS1 := Lib.hid (HS1.out.below hb2 (Nat.le_refl _)); have HM1 := Lib.hid (HM1.out.below hb2 (Nat.le_refl _)); have HB1 := Lib.hid (below_then HB1.out hb2); clear hb2)
            | ((with_reducible refine (HE.out _ HS1.out).mono ?_); rintro e w3 ⟨rfl, hb3⟩; have HX1 := Lib.hid (blk hb3 (lt_blk HX1.out) HX1.out); have HS1 := Lib.hid (HS1.out.below hb3 (Nat.le_refl _)); have HM1 := Lib.hid (HM1.out.below hb3 (Nat.le_refl _)); have HB1 := Lib.hid (below_then HB1.out hb3); clear hb3)
            | ((with_reducible refine (HEM.out _ HM1.out).mono ?_); rintro e w6 ⟨rfl, hb6⟩; have HX1 := Lib.hid (blk hb6 (lt_blk HX1.out) HX1.out); have HS1 := Lib.hid (HS1.out.below hb6 (Nat.le_refl _)); have HM1 := Lib.hid (HM1.out.below hb6 (Nat.le_refl _)); have HB1 := Lib.hid (below_then HB1.out hb6); clear hb6)
            | ((with_reducible refine (CR.out _).mono ?_); rintro e w4 ⟨rfl, hb4⟩; have HX1 := Lib.hid (blk hb4 (lt_blk HX1.out) HX1.out); have HS1 := Lib.hid (HS1.out.below hb4 (Nat.le_refl _)); have HM1 := Lib.hid (HM1.out.below hb4 (Nat.le_refl _)); have HB1 := Lib.hid (below_then HB1.out hb4); clear hb4)
            | ((with_reducible refine (MA.out _).mono ?_); rintro e w5 ⟨rfl, hb5⟩; have HX1 := Lib.hid (blk hb5 (lt_blk HX1.out) HX1.out); have HS1 := Lib.hid (HS1.out.below hb5 (Nat.le_refl _)); have HM1 := Lib.hid (HM1.out.below hb5 (Nat.le_refl _)); have HB1 := Lib.hid (below_then HB1.out hb5); clear hb5)
            | fail)
          go_ret
          exact retB rfl HB1.out
        · have tp : decide ((100 : Int) < (party.size : Int)) = false := decide_eq_false (by omega)
          have hli : t.cr.lives = false := by simpa [hlo, hhe, hhm, hp] using h
          rw [hlo] at LO
          rw [hhe] at HE
          rw [hhm] at HEM
          rw [hli] at MA
          clear h hlo hhe hhm hp hli
          go_enter Try.func9, Try.ntmps9
          go_wp2_with (first
            | ((with_reducible refine (awake_any _).mono ?_); rintro e w1 ⟨rfl, hb1⟩; have HX1 := Lib.hid (blk hb1 (lt_blk HX.out) HX.out); have HS1 := Lib.hid (HS.out.below hb1 (Nat.le_refl _)); have HM1 := Lib.hid (HM.out.below hb1 (Nat.le_refl _)); have HB1 := Lib.hid (below_new hb1); clear hb1)
            | (refine load_tm (.tmp 4) w.heap.size t rfl rfl HX1.out ?_)
            | ((with_reducible refine (LO.out _).mono ?_); rintro e w2 ⟨rfl, hb2⟩; have HX1 := Lib.hid (blk hb2 (lt_blk HX1.out) HX1.out); have HS1 := Lib.hid (HS1.out.below hb2 (Nat.le_refl _)); have HM1 := Lib.hid (HM1.out.below hb2 (Nat.le_refl _)); have HB1 := Lib.hid (below_then HB1.out hb2); clear hb2)
            | ((with_reducible refine (HE.out _ HS1.out).mono ?_); rintro e w3 ⟨rfl, hb3⟩; have HX1 := Lib.hid (blk hb3 (lt_blk HX1.out) HX1.out); have HS1 := Lib.hid (HS1.out.below hb3 (Nat.le_refl _)); have HM1 := Lib.hid (HM1.out.below hb3 (Nat.le_refl _)); have HB1 := Lib.hid (below_then HB1.out hb3); clear hb3)
            | ((with_reducible refine (HEM.out _ HM1.out).mono ?_); rintro e w6 ⟨rfl, hb6⟩; have HX1 := Lib.hid (blk hb6 (lt_blk HX1.out) HX1.out); have HS1 := Lib.hid (HS1.out.below hb6 (Nat.le_refl _)); have HM1 := Lib.hid (HM1.out.below hb6 (Nat.le_refl _)); have HB1 := Lib.hid (below_then HB1.out hb6); clear hb6)
            | ((with_reducible refine (CR.out _).mono ?_); rintro e w4 ⟨rfl, hb4⟩; have HX1 := Lib.hid (blk hb4 (lt_blk HX1.out) HX1.out); have HS1 := Lib.hid (HS1.out.below hb4 (Nat.le_refl _)); have HM1 := Lib.hid (HM1.out.below hb4 (Nat.le_refl _)); have HB1 := Lib.hid (below_then HB1.out hb4); clear hb4)
            | ((with_reducible refine (MA.out _).mono ?_); rintro e w5 ⟨rfl, hb5⟩; have HX1 := Lib.hid (blk hb5 (lt_blk HX1.out) HX1.out); have HS1 := Lib.hid (HS1.out.below hb5 (Nat.le_refl _)); have HM1 := Lib.hid (HM1.out.below hb5 (Nat.le_refl _)); have HB1 := Lib.hid (below_then HB1.out hb5); clear hb5)
            | fail)
          go_ret
          exact retB rfl HB1.out
      · rw [hlo] at LO
        rw [hhe] at HE
        rw [hhm] at HEM
        clear h hlo hhe hhm
        go_enter Try.func9, Try.ntmps9
        go_wp2_with (first
          | ((with_reducible refine (awake_any _).mono ?_); rintro e w1 ⟨rfl, hb1⟩; have HX1 := Lib.hid (blk hb1 (lt_blk HX.out) HX.out); have HS1 := Lib.hid (HS.out.below hb1 (Nat.le_refl _)); have HM1 := Lib.hid (HM.out.below hb1 (Nat.le_refl _)); have HB1 := Lib.hid (below_new hb1); clear hb1)
          | (refine load_tm (.tmp 4) w.heap.size t rfl rfl HX1.out ?_)
          | ((with_reducible refine (LO.out _).mono ?_); rintro e w2 ⟨rfl, hb2⟩; have HX1 := Lib.hid (blk hb2 (lt_blk HX1.out) HX1.out); have HS1 := Lib.hid (HS1.out.below hb2 (Nat.le_refl _)); have HM1 := Lib.hid (HM1.out.below hb2 (Nat.le_refl _)); have HB1 := Lib.hid (below_then HB1.out hb2); clear hb2)
          | ((with_reducible refine (HE.out _ HS1.out).mono ?_); rintro e w3 ⟨rfl, hb3⟩; have HX1 := Lib.hid (blk hb3 (lt_blk HX1.out) HX1.out); have HS1 := Lib.hid (HS1.out.below hb3 (Nat.le_refl _)); have HM1 := Lib.hid (HM1.out.below hb3 (Nat.le_refl _)); have HB1 := Lib.hid (below_then HB1.out hb3); clear hb3)
          | ((with_reducible refine (HEM.out _ HM1.out).mono ?_); rintro e w6 ⟨rfl, hb6⟩; have HX1 := Lib.hid (blk hb6 (lt_blk HX1.out) HX1.out); have HS1 := Lib.hid (HS1.out.below hb6 (Nat.le_refl _)); have HM1 := Lib.hid (HM1.out.below hb6 (Nat.le_refl _)); have HB1 := Lib.hid (below_then HB1.out hb6); clear hb6)
          | ((with_reducible refine (CR.out _).mono ?_); rintro e w4 ⟨rfl, hb4⟩; have HX1 := Lib.hid (blk hb4 (lt_blk HX1.out) HX1.out); have HS1 := Lib.hid (HS1.out.below hb4 (Nat.le_refl _)); have HM1 := Lib.hid (HM1.out.below hb4 (Nat.le_refl _)); have HB1 := Lib.hid (below_then HB1.out hb4); clear hb4)
          | ((with_reducible refine (MA.out _).mono ?_); rintro e w5 ⟨rfl, hb5⟩; have HX1 := Lib.hid (blk hb5 (lt_blk HX1.out) HX1.out); have HS1 := Lib.hid (HS1.out.below hb5 (Nat.le_refl _)); have HM1 := Lib.hid (HM1.out.below hb5 (Nat.le_refl _)); have HB1 := Lib.hid (below_then HB1.out hb5); clear hb5)
          | fail)
        go_ret
        exact retB rfl HB1.out
    · rw [hlo] at LO
      rw [hhe] at HE
      clear h hlo hhe
      go_enter Try.func9, Try.ntmps9
      go_wp2_with (first
        | ((with_reducible refine (awake_any _).mono ?_); rintro e w1 ⟨rfl, hb1⟩; have HX1 := Lib.hid (blk hb1 (lt_blk HX.out) HX.out); have HS1 := Lib.hid (HS.out.below hb1 (Nat.le_refl _)); have HM1 := Lib.hid (HM.out.below hb1 (Nat.le_refl _)); have HB1 := Lib.hid (below_new hb1); clear hb1)
        | (refine load_tm (.tmp 4) w.heap.size t rfl rfl HX1.out ?_)
        | ((with_reducible refine (LO.out _).mono ?_); rintro e w2 ⟨rfl, hb2⟩; have HX1 := Lib.hid (blk hb2 (lt_blk HX1.out) HX1.out); have HS1 := Lib.hid (HS1.out.below hb2 (Nat.le_refl _)); have HM1 := Lib.hid (HM1.out.below hb2 (Nat.le_refl _)); have HB1 := Lib.hid (below_then HB1.out hb2); clear hb2)
        | ((with_reducible refine (HE.out _ HS1.out).mono ?_); rintro e w3 ⟨rfl, hb3⟩; have HX1 := Lib.hid (blk hb3 (lt_blk HX1.out) HX1.out); have HS1 := Lib.hid (HS1.out.below hb3 (Nat.le_refl _)); have HM1 := Lib.hid (HM1.out.below hb3 (Nat.le_refl _)); have HB1 := Lib.hid (below_then HB1.out hb3); clear hb3)
        | ((with_reducible refine (HEM.out _ HM1.out).mono ?_); rintro e w6 ⟨rfl, hb6⟩; have HX1 := Lib.hid (blk hb6 (lt_blk HX1.out) HX1.out); have HS1 := Lib.hid (HS1.out.below hb6 (Nat.le_refl _)); have HM1 := Lib.hid (HM1.out.below hb6 (Nat.le_refl _)); have HB1 := Lib.hid (below_then HB1.out hb6); clear hb6)
        | ((with_reducible refine (CR.out _).mono ?_); rintro e w4 ⟨rfl, hb4⟩; have HX1 := Lib.hid (blk hb4 (lt_blk HX1.out) HX1.out); have HS1 := Lib.hid (HS1.out.below hb4 (Nat.le_refl _)); have HM1 := Lib.hid (HM1.out.below hb4 (Nat.le_refl _)); have HB1 := Lib.hid (below_then HB1.out hb4); clear hb4)
        | ((with_reducible refine (MA.out _).mono ?_); rintro e w5 ⟨rfl, hb5⟩; have HX1 := Lib.hid (blk hb5 (lt_blk HX1.out) HX1.out); have HS1 := Lib.hid (HS1.out.below hb5 (Nat.le_refl _)); have HM1 := Lib.hid (HM1.out.below hb5 (Nat.le_refl _)); have HB1 := Lib.hid (below_then HB1.out hb5); clear hb5)
        | fail)
      go_ret
      exact retB rfl HB1.out
  · rw [hlo] at LO
    clear h hlo
    go_enter Try.func9, Try.ntmps9
    go_wp2_with (first
      | ((with_reducible refine (awake_any _).mono ?_); rintro e w1 ⟨rfl, hb1⟩; have HX1 := Lib.hid (blk hb1 (lt_blk HX.out) HX.out); have HS1 := Lib.hid (HS.out.below hb1 (Nat.le_refl _)); have HM1 := Lib.hid (HM.out.below hb1 (Nat.le_refl _)); have HB1 := Lib.hid (below_new hb1); clear hb1)
      | (refine load_tm (.tmp 4) w.heap.size t rfl rfl HX1.out ?_)
      | ((with_reducible refine (LO.out _).mono ?_); rintro e w2 ⟨rfl, hb2⟩; have HX1 := Lib.hid (blk hb2 (lt_blk HX1.out) HX1.out); have HS1 := Lib.hid (HS1.out.below hb2 (Nat.le_refl _)); have HM1 := Lib.hid (HM1.out.below hb2 (Nat.le_refl _)); have HB1 := Lib.hid (below_then HB1.out hb2); clear hb2)
      | ((with_reducible refine (HE.out _ HS1.out).mono ?_); rintro e w3 ⟨rfl, hb3⟩; have HX1 := Lib.hid (blk hb3 (lt_blk HX1.out) HX1.out); have HS1 := Lib.hid (HS1.out.below hb3 (Nat.le_refl _)); have HM1 := Lib.hid (HM1.out.below hb3 (Nat.le_refl _)); have HB1 := Lib.hid (below_then HB1.out hb3); clear hb3)
      | ((with_reducible refine (HEM.out _ HM1.out).mono ?_); rintro e w6 ⟨rfl, hb6⟩; have HX1 := Lib.hid (blk hb6 (lt_blk HX1.out) HX1.out); have HS1 := Lib.hid (HS1.out.below hb6 (Nat.le_refl _)); have HM1 := Lib.hid (HM1.out.below hb6 (Nat.le_refl _)); have HB1 := Lib.hid (below_then HB1.out hb6); clear hb6)
      | ((with_reducible refine (CR.out _).mono ?_); rintro e w4 ⟨rfl, hb4⟩; have HX1 := Lib.hid (blk hb4 (lt_blk HX1.out) HX1.out); have HS1 := Lib.hid (HS1.out.below hb4 (Nat.le_refl _)); have HM1 := Lib.hid (HM1.out.below hb4 (Nat.le_refl _)); have HB1 := Lib.hid (below_then HB1.out hb4); clear hb4)
      | ((with_reducible refine (MA.out _).mono ?_); rintro e w5 ⟨rfl, hb5⟩; have HX1 := Lib.hid (blk hb5 (lt_blk HX1.out) HX1.out); have HS1 := Lib.hid (HS1.out.below hb5 (Nat.le_refl _)); have HM1 := Lib.hid (HM1.out.below hb5 (Nat.le_refl _)); have HB1 := Lib.hid (below_then HB1.out hb5); clear hb5)
      | fail)
    go_ret
    exact retB rfl HB1.out

theorem walk (w : World) (t : Tm) (_ht : t.fit) (l : List Ev) (v : Value) (hs : Sl w 4 v (l.map Ev.row)) (hf : ∀ e ∈ l, e.fit) (more : List Ev) (v2 : Value) (hsm : Sl w 4 v2 (more.map Ev.row)) (hfm : ∀ e ∈ more, e.fit) (party : ByteArray) (_ : party.size ≤ maxLen) : Calls Try.prog 9 #[.agg t.cells, v, v2, .string party] w (RetB w true) := by
  by_cases hp : party.size ≤ 100
  · cases hlo : t.long <;> cases hhe : heavy l 20 <;> cases hhm : heavy more 8 <;> cases hli : t.cr.lives
    case false.false.false.true => exact walk_yes w t l more v v2 party hs hsm hf hfm hlo hhe hhm hp hli
    all_goals exact walk_no w t l more v v2 party hs hsm (by simp [hlo, hhe, hhm, hli])
  · exact walk_no w t l more v v2 party hs hsm (by simp [show 100 < party.size by omega])

theorem lifted (os : Os) (started : os.Started) (H : Type) (enc : TypeId × Value → H) :
    ReturnsInHanded {} Try.checked os 9 .any (Rows.undertakeCopiesSpec.pre6 enc Try.prog Try.f9 Rows.undertakeCopiesRow.domain false) (Rows.undertakeCopiesSpec.post enc Try.prog Try.f9 false true false false) := by
  refine law_lifted os started (by kernel_rfl) Try.func9
    (ChangeSpec.witness6 (enc := enc) (C := Try.checked) false ⟨#[], #[.agg #[.string ⟨#[]⟩, .string ⟨#[]⟩, .string ⟨#[]⟩, .string ⟨#[]⟩, .int .i64 0, .int .i64 0, .int .i64 0, .int .i64 0, .bool false], .slice none 0 0, .slice none 0 0, .string ⟨#[]⟩], []⟩ 8 (by kernel_rfl) (by kernel_rfl) (by kernel_rfl) (by kernel_rfl))
    (by kernel_rfl) rfl rfl ?_ ?_
  · intro vs ds W p hA
    rw [Try.params9] at hA
    obtain ⟨v0, vs0, d0, ds0, p0, q0, rfl, rfl, rfl, h0, r0⟩ := trodAll_cons hA
    obtain ⟨v1, vs1, d1, ds1, p1, q1, rfl, rfl, rfl, h1, r1⟩ := trodAll_cons r0
    obtain ⟨v2, vs2, d2, ds2, p2, q2, rfl, rfl, rfl, h2, r2⟩ := trodAll_cons r1
    obtain ⟨v3, vs3, d3, ds3, p3, q3, rfl, rfl, rfl, h3, r3⟩ := trodAll_cons r2
    obtain ⟨rfl, rfl, rfl⟩ := trodAll_nil r3
    rfl
  · intro W base args ds p hval hA
    rw [Try.params9] at hA hval
    obtain ⟨v0, vs0, d0, ds0, p0, q0, hargs, rfl, rfl, h0, r0⟩ := trodAll_cons hA
    obtain ⟨v1, vs1, d1, ds1, p1, q1, rfl, rfl, rfl, h1, r1⟩ := trodAll_cons r0
    obtain ⟨v2, vs2, d2, ds2, p2, q2, rfl, rfl, rfl, h2, r2⟩ := trodAll_cons r1
    obtain ⟨v3, vs3, d3, ds3, p3, q3, rfl, rfl, rfl, h3, r3⟩ := trodAll_cons r2
    obtain ⟨rfl, rfl, rfl⟩ := trodAll_nil r3
    obtain rfl : args = #[v0, v1, v2, v3] := by cases args; simp_all
    obtain ⟨t0, rfl, w0⟩ := open_terms (hval 0 23 v0 rfl rfl) h0
    obtain ⟨l1, hs1, hf1⟩ := open_evs (hval 1 24 v1 rfl rfl) h1
    obtain ⟨l2, hs2, hf2⟩ := open_evs (hval 2 24 v2 rfl rfl) h2
    obtain ⟨a3, rfl, rfl, rfl, w3⟩ := Go.ChangeMaps.open_string Try.underlying9 (hval 3 9 v3 rfl rfl) h3
    exact walk W t0 w0 l1 v1 hs1 hf1 l2 v2 hs2 hf2 a3 w3

theorem over : Rows.undertakeCopiesRow.holds Try.pinned (OpenSpec.ofChange Rows.undertakeCopiesSpec) :=
  OpenClaim.holds_of_wide 9 Try.f9 rfl rfl rfl rfl rfl rfl rfl ⟨rfl, rfl, rfl, rfl, rfl⟩ rfl rfl rfl rfl rfl (by kernel_rfl) Try.func9 (by kernel_rfl)
    (of_decide_eq_true (by kernel_rfl)) (by unfold Func.isWrapper; rw [if_neg (by decide +kernel)]; exact ⟨rfl, rfl⟩)
    (fun os started H enc _ => lifted os started H enc)

/-- The statement. -/
theorem proved : Rows.UndertakeCopiesSaid := over
#print axioms proved
end Go.Proofs.Ytjabjfkfoenmlaa.undertakeCopies
