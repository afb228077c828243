/- A box leaves a bond: the plain law of it. -/
import Derived.Test.YtehlhfcaajhhaaaBond45
namespace Go.Proofs.Ytehlhfcaajhhaaa.Sc
open Go Go.RowKit Go.ChangeShapes Go.WideShapes Go.ChangeAt
set_option maxRecDepth 100000

def setSt (l : List Bx) (n : ByteArray) (st : Int) : List Bx := l.map fun b => if b.name = n then { b with st := st } else b
def boxOf (l : List Bx) (n : ByteArray) : Option Bx := l.find? fun b => decide (b.name = n)
def leaveC (l : List Bx) (n : ByteArray) (rf : Bx → Int) : Int := match boxOf l n with
  | none => 4
  | some b => if b.st = 0 then rf b else 9
def leaveL (l : List Bx) (n : ByteArray) (st : Int) (rf : Bx → Int) : List Bx := if leaveC l n rf = 0 then setSt l n st else l
theorem leaveC_none {l : List Bx} {n : ByteArray} {rf : Bx → Int} (h : boxOf l n = none) : leaveC l n rf = 4 := by rw [leaveC, h]
theorem leaveC_some {l : List Bx} {n : ByteArray} {rf : Bx → Int} {b : Bx} (h : boxOf l n = some b) (hs : b.st = 0) : leaveC l n rf = rf b := by rw [leaveC, h]; exact if_pos hs
theorem leaveC_gone {l : List Bx} {n : ByteArray} {rf : Bx → Int} {b : Bx} (h : boxOf l n = some b) (hs : ¬ b.st = 0) : leaveC l n rf = 9 := by rw [leaveC, h]; exact if_neg hs
theorem boxOf_none {l : List Bx} {n : ByteArray} (h : boxOf l n = none) : hasB l n = false := by
  rw [boxOf, List.find?_eq_none] at h
  rw [hasB, List.any_eq_false]
  exact h
theorem boxOf_mem {l : List Bx} {n : ByteArray} {b : Bx} (h : boxOf l n = some b) : b ∈ l ∧ b.name = n := ⟨List.mem_of_find?_eq_some h, by simpa using List.find?_some h⟩
theorem boxOf_get {l : List Bx} {es : Mp.Ents} {n : ByteArray} {b : Bx} (hp : es.Perm (bEnts l)) (hn : (Mp.mkeys es).Nodup) (h : boxOf l n = some b) : Mp.mget es n = some b.val := by
  obtain ⟨hb, rfl⟩ := boxOf_mem h
  exact Mp.mget_of_mem hn (hp.mem_iff.2 (List.mem_map.2 ⟨b, hb, rfl⟩))
theorem mput_map : ∀ {es : Mp.Ents} {n : ByteArray} (v : Value), (Mp.mkeys es).Nodup → n ∈ Mp.mkeys es → Mp.mput es n v = es.map fun p => if n = p.1 then (p.1, v) else p
  | [], _, _, _, h => by simp [Mp.mkeys] at h
  | p :: r, n, v, hn, h => by
    simp only [Mp.mkeys, List.map_cons, List.nodup_cons] at hn
    by_cases hp : n = p.1
    · rw [Mp.mput, if_pos hp, List.map_cons, if_pos hp]
      congr 1
      rw [List.map_congr_left (g := id), List.map_id]
      intro q hq
      rw [if_neg]
      · rfl
      · rintro rfl
        exact hn.1 (hp ▸ List.mem_map.2 ⟨q, hq, rfl⟩)
    · rw [Mp.mput, if_neg hp, List.map_cons, if_neg hp]
      congr 1
      refine mput_map v hn.2 ?_
      simp only [Mp.mkeys, List.map_cons, List.mem_cons] at h
      rcases h with h | h
      · exact absurd h hp
      · exact h
theorem perm_set {l : List Bx} {es : Mp.Ents} {n : ByteArray} {b : Bx} (st : Int) (hp : es.Perm (bEnts l)) (hn : (Mp.mkeys es).Nodup) (h : boxOf l n = some b) :
    (Mp.mput es n (.agg #[.int .i64 b.duty, .int .i64 b.day, .int .i64 st])).Perm (bEnts (setSt l n st)) := by
  obtain ⟨hb, hbn⟩ := boxOf_mem h
  have hg := boxOf_get hp hn h
  have hk : n ∈ Mp.mkeys es := by
    have := Mp.mem_of_mget hg
    exact List.mem_map.2 ⟨_, this, rfl⟩
  rw [mput_map _ hn hk]
  refine (hp.map _).trans ?_
  rw [bEnts, bEnts, setSt, List.map_map, List.map_map]
  rw [List.map_congr_left (g := (fun b => (b.name, b.val)) ∘ fun b => if b.name = n then { b with st := st } else b)]
  intro x hx
  simp only [Function.comp]
  by_cases hxn : x.name = n
  · have hv : Mp.mget es n = some x.val := Mp.mget_of_mem hn (hp.mem_iff.2 (List.mem_map.2 ⟨x, hx, by rw [hxn]⟩))
    rw [hg] at hv
    have hv := Option.some.inj hv
    simp only [Bx.val, Value.agg.injEq, Array.mk.injEq, List.cons.injEq, Value.int.injEq, true_and, and_true] at hv
    rw [if_pos hxn.symm, if_pos hxn, hv.1, hv.2.1]
    rfl
  · rw [if_neg (fun e => hxn e.symm), if_neg hxn]
theorem used_nonneg : ∀ {l : List Bx}, (∀ b ∈ l, b.good) → 0 ≤ usedOf l
  | [], _ => by simp [usedOf]
  | b :: r, h => by
    have h1 := used_nonneg (l := r) (fun x hx => h x (List.mem_cons_of_mem _ hx))
    have h2 := (h b (List.mem_cons_self)).d
    simp only [usedOf]
    split <;> omega
theorem used_ge {l : List Bx} {n : ByteArray} {b : Bx} (hg : ∀ b ∈ l, b.good) (h : boxOf l n = some b) (hs : b.st = 0) : b.duty ≤ usedOf l := by
  obtain ⟨hb, -⟩ := boxOf_mem h
  induction l with
  | nil => simp at hb
  | cons x r ih =>
    have h1 := used_nonneg (l := r) (fun x hx => hg x (List.mem_cons_of_mem _ hx))
    have h2 := (hg x (List.mem_cons_self)).d
    rcases List.mem_cons.1 hb with rfl | hb'
    · simp only [usedOf, hs, if_true]; omega
    · have hr : ∀ y ∈ r, y.good := fun y hy => hg y (List.mem_cons_of_mem _ hy)
      have h3 : b.duty ≤ usedOf r := by
        clear ih h hb
        induction r with
        | nil => simp at hb'
        | cons z r ih =>
          have h4 := used_nonneg (l := r) (fun x hx => hr x (List.mem_cons_of_mem _ hx))
          have h5 := (hr z (List.mem_cons_self)).d
          rcases List.mem_cons.1 hb' with rfl | hb''
          · simp only [usedOf, hs, if_true]; omega
          · have := ih (fun y hy => by
              rcases List.mem_cons.1 hy with rfl | hy
              · exact hg _ (List.mem_cons_self)
              · exact hr y (List.mem_cons_of_mem _ hy)) h4 hb'' (fun y hy => hr y (List.mem_cons_of_mem _ hy))
            simp only [usedOf]
            split <;> omega
      simp only [usedOf]
      split <;> omega
theorem setSt_none {l : List Bx} {n : ByteArray} (st : Int) (h : n ∉ l.map Bx.name) : setSt l n st = l := by
  rw [setSt]
  conv => rhs; rw [← List.map_id l]
  refine List.map_congr_left fun x hx => ?_
  rw [if_neg (fun e => h (List.mem_map.2 ⟨x, hx, e⟩))]
  rfl
theorem used_set {l : List Bx} {n : ByteArray} {b : Bx} {st : Int} (hn : (l.map Bx.name).Nodup) (h : boxOf l n = some b) (hs : b.st = 0) (hst : ¬ st = 0) : usedOf (setSt l n st) = usedOf l - b.duty := by
  induction l with
  | nil => simp [boxOf] at h
  | cons x r ih =>
    simp only [List.map_cons, List.nodup_cons] at hn
    by_cases hx : x.name = n
    · have hbx : b = x := by
        rw [boxOf, List.find?_cons_of_pos (by simpa using hx)] at h
        exact (Option.some.inj h).symm
      subst hbx
      have hr : setSt r n st = r := setSt_none st (hx ▸ hn.1)
      have : setSt (b :: r) n st = { b with st := st } :: r := by
        conv => rhs; rw [← hr]
        simp [setSt, hx]
      rw [this]
      simp only [usedOf, hs, hst, if_true, if_false]
      omega
    · have h' : boxOf r n = some b := by
        rw [boxOf, List.find?_cons_of_neg (by simpa using hx)] at h
        exact h
      have : setSt (x :: r) n st = x :: setSt r n st := by simp [setSt, hx]
      rw [this]
      simp only [usedOf, ih hn.2 h']
      omega
theorem set_good {l : List Bx} {n : ByteArray} {st : Int} (h : ∀ b ∈ l, b.good) : ∀ b ∈ setSt l n st, b.good := by
  intro b hb
  obtain ⟨x, hx, rfl⟩ := List.mem_map.1 hb
  split
  · exact ⟨(h x hx).d, (h x hx).y⟩
  · exact h x hx
theorem leaveBad {w w' : World} {bp bm : Nat} {L : Int} {l : List Bx} {n : ByteArray} {st c : Int} {rf : Bx → Int} (h : Bst w bp bm L l) (hc : leaveC l n rf = c) (h0 : ¬ c = 0) (hb : Below w.heap.size w w') :
    BondP w bp bm L (leaveL l n st rf) (.int .i64 (leaveC l n rf)) (.returned (.int .i64 c)) w' :=
  ⟨by rw [hc], by rw [leaveL, if_neg (by rw [hc]; exact h0)]; exact h.below hb, Keep.of_below hb⟩
theorem blk_set2 {w : World} {b : Nat} {x y z : Value} {t : TypeId} {fr : Nat × Nat} (h : w.heap[b]? = some (.cells #[x, y, z] t fr)) (u : Value) : (w.setCell ⟨b, 2, none⟩ u).heap[b]? = some (.cells #[x, y, u] t fr) := by
  simp [World.setCell, Array.getElem?_modify, h]
theorem leaveOk {w w4 w5 : World} {bp bm : Nat} {L U D bd by_ bs st : Int} {bn : ByteArray} {l : List Bx} {es : Mp.Ents} {n : ByteArray} {rf : Bx → Int} (h : Bst w bp bm L l) (hc : leaveC l n rf = 0) (hh : boxOf l n = some ⟨bn, bd, by_, bs⟩) (hs : bs = 0) (hst : st = 1 ∨ st = 2)
    (hp : es.Perm (bEnts l)) (hnd : (Mp.mkeys es).Nodup) (hk : Keep (fun k => k = bp ∨ k = bm) w w4) (hx : w4.heap[bp]? = some (.cells #[.int .i64 L, .int .i64 D, .map (some bm)] 95 (0, 0))) (hD : D = U - bd) (hU : U = usedOf l)
    (hg : w4.drew.grownBy w5 (some bm)) (hm : Mp.MapAt w5 bm (Mp.mput es n (.agg #[.int .i64 bd, .int .i64 by_, .int .i64 st]))) :
    BondP w bp bm L (leaveL l n st rf) (.int .i64 (leaveC l n rf)) (.returned (.int .i64 0)) w5 := by
  have hnn : (l.map Bx.name).Nodup := by
    have h1 : ((bEnts l).map Prod.fst).Nodup := (hp.map Prod.fst).nodup_iff.1 hnd
    simpa [bEnts, List.map_map, Function.comp_def] using h1
  have hu := used_set (st := st) hnn hh hs (by omega)
  have hu2 : usedOf (setSt l n st) = D := by rw [hu, hD, hU]
  have hgd := h.good _ (boxOf_mem hh).1
  refine ⟨by rw [hc], ?_, hk.trans (Keep.of_grown hg).undrew (fun i _ e => .inr (Option.some.inj e).symm)⟩
  rw [leaveL, if_pos hc]
  have hd : 0 ≤ bd := hgd.d.1
  refine ⟨?_, ⟨_, hm, perm_set st hp hnd hh⟩, h.ne, set_good h.good, h.lim, ?_⟩
  · rw [hu2]
    exact (hg.block bp (lt_blk hx) (fun e => h.ne (Option.some.inj e).symm)).trans hx
  · have h1 := used_nonneg (set_good (n := n) (st := st) h.good)
    have h2 := h.us
    omega
set_option maxHeartbeats 8000000 in
theorem leave3_any (l : List Bx) (L : Int) (bp bm : Nat) (n : ByteArray) (st : Int) (rf : Bx → Int)  (w : World) (h : Bst w bp bm L l) (hst : st = 1 ∨ st = 2)
    (hrf : ∀ (b : Bx) W, Below w.heap.size w W → Calls Try.prog 44 #[b.val] W (Ret W (.int .i64 (rf b)))) :
    Calls Try.prog 41 #[.pointer (some ⟨bp, 0, none⟩), .string n, .int .i64 st, .func (.func 44) #[] #[]] w (BondP w bp bm L (leaveL l n st rf) (.int .i64 (leaveC l n rf))) := by
  have HB := Lib.hid h
  obtain ⟨es, hm, hp⟩ := h.map
  have HP := Lib.hid hp
  have HM : Hid (∀ W, Below w.heap.size w W → Mp.MapAt W bm es) := Lib.hid (fun W hW => hm.same (hW.block _ hm.lt))
  have HND := Lib.hid hm.nodup
  have c0 := cell_blk h.box 0
  have c1 := cell_blk h.box 1
  have c2 := cell_blk h.box 2
  have HST := Lib.hid hst
  clear h hm hp hst
  cases hh : boxOf l n with
  | none =>
    have HG := Lib.hid (bget_none HP.out (boxOf_none hh))
    have HQ := Lib.hid (leaveC_none (rf := rf) hh)
    clear hh hrf
    go_enter Try.func41, Try.ntmps41
    go_wp2_with (first
      | ((with_reducible refine Mp.wpl_miss (l := es) (key := n) ?_ ?_ ?_ Try.underlying93 Try.underlying9 (zeroEnt _) (HM.out _ (Below.refl _ _)) HG.out ?_); rfl; rfl; rfl)
      | fail)
    go_ret
    exact leaveBad HB.out HQ.out (by decide) (one_below _ _)
  | some b =>
    have HG0 := Lib.hid (boxOf_get HP.out HND.out hh)
    obtain ⟨bn, bd, by_, bs⟩ := b
    have HG := HG0
    simp only [Bx.val] at HG
    by_cases hs : bs = 0
    · have ts : (bs != 0) = false := by simp [hs]
      obtain ⟨R, hR⟩ : ∃ R, R = rf ⟨bn, bd, by_, bs⟩ := ⟨_, rfl⟩
      have HQ0 : Hid (leaveC l n rf = R) := Lib.hid (by rw [hR]; exact leaveC_some hh hs)
      have HRF : Hid (∀ W, Below w.heap.size w W → Calls Try.prog 44 #[.agg #[.int .i64 bd, .int .i64 by_, .int .i64 bs]] W (Ret W (.int .i64 R))) := Lib.hid (fun W hW => by rw [hR]; exact hrf ⟨bn, bd, by_, bs⟩ W hW)
      have HE := Lib.hid (heap_alloc_new w (.cells #[.int .i64 bd, .int .i64 by_, .int .i64 bs] 91))
      have HH := Lib.hid hh
      have HS := Lib.hid hs
      have hgd := HB.out.good _ (List.mem_of_find?_eq_some hh)
      have hdd : 0 ≤ bd ∧ bd ≤ 1099511627776 := hgd.d
      have hus := HB.out.us
      have hlm := HB.out.lim
      have hud : bd ≤ usedOf l := used_ge HB.out.good hh hs
      clear hh hrf hs hR hgd
      by_cases hr : R = 0
      · have tr : (R != 0) = false := by simp [hr]
        have HQ : Hid (leaveC l n rf = 0) := Lib.hid (HQ0.out.trans hr)
        clear hr
        obtain ⟨U, hU⟩ : ∃ U, U = usedOf l := ⟨_, rfl⟩
        rw [← hU] at c1 hus hud
        have HUU := Lib.hid hU
        obtain ⟨D, hD⟩ : ∃ D, D = U - bd := ⟨_, rfl⟩
        have eD : wrap64 (U - bd) = D := by rw [hD]; exact wrap_q (by omega)
        have HDD := Lib.hid hD
        clear hU hD hus hlm hdd hud
        go_enter Try.func41, Try.ntmps41
        go_wp2_with (first
          | ((with_reducible refine Mp.wpl_got (l := es) (key := n) ?_ ?_ ?_ Try.underlying93 Try.underlying9 (zeroEnt _) (HM.out _ (Below.refl _ _)) HG.out ?_); rfl; rfl; rfl)
          | ((with_reducible refine (HRF.out _ (one_below _ _)).mono ?_); rintro e w2 ⟨rfl, hb2⟩; have HB2 := Lib.hid (below_then (one_below _ _) hb2); have HE2 := Lib.hid (blk hb2 (lt_blk HE.out) HE.out); have HX2 := Lib.hid (blk HB2.out (lt_blk HB.out.box) HB.out.box); clear hb2)
          | fail)
        clear c0 c1 c2
        have x0 := cell_blk HX2.out 0
        have x1 := cell_blk HX2.out 1
        have x2 := cell_blk HX2.out 2
        rw [← HUU.out] at x1
        have y0 := cell_blk HE2.out 0
        have y1 := cell_blk HE2.out 1
        have y2 := cell_blk HE2.out 2
        have fx := free_blk HX2.out 1
        have fy := free_blk HE2.out 2
        obtain ⟨be, hbe⟩ : ∃ b, b = w.heap.size := ⟨_, rfl⟩
        rw [← hbe] at y0 y1 y2 fy ⊢
        have HNB : Hid (¬ be = bp) := Lib.hid (by have := lt_blk HB.out.box; omega)
        have HBE := Lib.hid hbe
        clear hbe
        go_still_tail 9, (by kernel_rfl)
        change wpList _ _ _ _ _ w2.drew
        go_wp2_with fail
        obtain ⟨w4, hw4⟩ : ∃ x, x = ((w2.setCell ⟨bp, 1, none⟩ (.int .i64 D)).setCell ⟨be, 2, none⟩ (.int .i64 st)).drew := ⟨_, rfl⟩
        have HX4 : Hid (w4.heap[bp]? = some (.cells #[.int .i64 L, .int .i64 D, .map (some bm)] 95 (0, 0))) := Lib.hid (by
          rw [hw4]; exact (Below.heap_setCell _ _ _ _ (fun e => HNB.out e.symm)).trans (blk_set1 HX2.out _))
        have HE4 : Hid (w4.heap[be]? = some (.cells #[.int .i64 bd, .int .i64 by_, .int .i64 st] 91 (0, 0))) := Lib.hid (by
          rw [hw4]; exact blk_set2 ((Below.heap_setCell _ _ _ _ (fun e => HNB.out e)).trans (by rw [HBE.out]; exact HE2.out)) _)
        have HM4 : Hid (Mp.MapAt w4 bm es) := Lib.hid (by
          rw [hw4]
          have hm2 := HM.out _ HB2.out
          have hlt := (HM.out _ (Below.refl _ _)).lt
          exact hm2.same ((Below.heap_setCell _ _ _ _ (fun e => by have := HBE.out; have e' : bm = be := e; omega)).trans (Below.heap_setCell _ _ _ _ (fun e => HB.out.ne e))))
        have HK4 : Hid (Keep (fun k => k = bp ∨ k = bm) w w4) := Lib.hid (by
          rw [hw4]
          have k1 : Keep (fun k => k = bp ∨ k = bm) w (w2.setCell ⟨bp, 1, none⟩ (.int .i64 D)) := (Keep.of_below HB2.out).trans (Keep.of_grown (grown_set w2 bp 1 _)) (fun i _ e => .inl (Option.some.inj e).symm)
          have k2 : Keep (fun k => k = bp ∨ k = bm) w ((w2.setCell ⟨bp, 1, none⟩ (.int .i64 D)).setCell ⟨be, 2, none⟩ (.int .i64 st)) := k1.trans (Keep.of_grown (grown_set _ be 2 _)) (fun i hi e => by have := HBE.out; have e' := Option.some.inj e; omega)
          exact k2.trans (Keep.drew (fun _ => False) _ 1) (fun _ _ e => e.elim))
        rw [← hw4]
        clear hw4 x0 x1 x2 y0 y1 y2 fx fy
        have x2 := cell_blk HX4.out 2
        have y0 := cell_blk HE4.out 0
        have y1 := cell_blk HE4.out 1
        have y2 := cell_blk HE4.out 2
        go_still_tail 6, (by kernel_rfl)
        change wpList _ _ _ _ _ w4.drew
        go_wp2_with (first
          | ((with_reducible refine Mp.wpl_update (b := bm) (l := es) (key := n) (v := .agg #[.int .i64 bd, .int .i64 by_, .int .i64 st]) ?_ ?_ ?_ ?_ Try.underlying93 Try.underlying9 (HM4.out.same rfl) ?_); rfl; rfl; rfl; rfl; intro w5 hm5 hg5 hz5; have HM5 := Lib.hid hm5; have HG5 := Lib.hid hg5; clear hm5 hg5 hz5)
          | fail)
        go_ret
        exact leaveOk HB.out HQ.out HH.out HS.out HST.out HP.out HND.out HK4.out HX4.out HDD.out HUU.out HG5.out HM5.out
      · have tr : (R != 0) = true := by simp [hr]
        have HR := Lib.hid hr
        clear hr
        go_enter Try.func41, Try.ntmps41
        go_wp2_with (first
          | ((with_reducible refine Mp.wpl_got (l := es) (key := n) ?_ ?_ ?_ Try.underlying93 Try.underlying9 (zeroEnt _) (HM.out _ (Below.refl _ _)) HG.out ?_); rfl; rfl; rfl)
          | ((with_reducible refine (HRF.out _ (one_below _ _)).mono ?_); rintro e w2 ⟨rfl, hb2⟩; have HB2 := Lib.hid (below_then (one_below _ _) hb2); have HE2 := Lib.hid (blk hb2 (lt_blk HE.out) HE.out); have HX2 := Lib.hid (blk HB2.out (lt_blk HB.out.box) HB.out.box); clear hb2)
          | fail)
        go_ret
        exact leaveBad HB.out HQ0.out HR.out HB2.out
    · have ts : (bs != 0) = true := by simp [hs]
      have HQ := Lib.hid (leaveC_gone (rf := rf) hh hs)
      have HE := Lib.hid (heap_alloc_new w (.cells #[.int .i64 bd, .int .i64 by_, .int .i64 bs] 91))
      clear hh hrf hs
      go_enter Try.func41, Try.ntmps41
      go_wp2_with (first
        | ((with_reducible refine Mp.wpl_got (l := es) (key := n) ?_ ?_ ?_ Try.underlying93 Try.underlying9 (zeroEnt _) (HM.out _ (Below.refl _ _)) HG.out ?_); rfl; rfl; rfl)
        | fail)
      go_ret
      exact leaveBad HB.out HQ.out (by decide) (one_below _ _)

set_option maxHeartbeats 8000000 in
theorem leave1_any (l : List Bx) (L : Int) (bp bm : Nat) (n : ByteArray) (st : Int) (rf : Bx → Int) (q1 : Nat) (w : World) (h : Bst w bp bm L l) (hst : st = 1 ∨ st = 2)
    (hrf : ∀ (b : Bx) W, Below w.heap.size w W → Calls Try.prog 42 #[b.val, .pointer (some ⟨q1, 0, none⟩)] W (Ret W (.int .i64 (rf b)))) :
    Calls Try.prog 41 #[.pointer (some ⟨bp, 0, none⟩), .string n, .int .i64 st, .func (.func 42) #[] #[.pointer (some ⟨q1, 0, none⟩)]] w (BondP w bp bm L (leaveL l n st rf) (.int .i64 (leaveC l n rf))) := by
  have HB := Lib.hid h
  obtain ⟨es, hm, hp⟩ := h.map
  have HP := Lib.hid hp
  have HM : Hid (∀ W, Below w.heap.size w W → Mp.MapAt W bm es) := Lib.hid (fun W hW => hm.same (hW.block _ hm.lt))
  have HND := Lib.hid hm.nodup
  have c0 := cell_blk h.box 0
  have c1 := cell_blk h.box 1
  have c2 := cell_blk h.box 2
  have HST := Lib.hid hst
  clear h hm hp hst
  cases hh : boxOf l n with
  | none =>
    have HG := Lib.hid (bget_none HP.out (boxOf_none hh))
    have HQ := Lib.hid (leaveC_none (rf := rf) hh)
    clear hh hrf
    go_enter Try.func41, Try.ntmps41
    go_wp2_with (first
      | ((with_reducible refine Mp.wpl_miss (l := es) (key := n) ?_ ?_ ?_ Try.underlying93 Try.underlying9 (zeroEnt _) (HM.out _ (Below.refl _ _)) HG.out ?_); rfl; rfl; rfl)
      | fail)
    go_ret
    exact leaveBad HB.out HQ.out (by decide) (one_below _ _)
  | some b =>
    have HG0 := Lib.hid (boxOf_get HP.out HND.out hh)
    obtain ⟨bn, bd, by_, bs⟩ := b
    have HG := HG0
    simp only [Bx.val] at HG
    by_cases hs : bs = 0
    · have ts : (bs != 0) = false := by simp [hs]
      obtain ⟨R, hR⟩ : ∃ R, R = rf ⟨bn, bd, by_, bs⟩ := ⟨_, rfl⟩
      have HQ0 : Hid (leaveC l n rf = R) := Lib.hid (by rw [hR]; exact leaveC_some hh hs)
      have HRF : Hid (∀ W, Below w.heap.size w W → Calls Try.prog 42 #[.agg #[.int .i64 bd, .int .i64 by_, .int .i64 bs], .pointer (some ⟨q1, 0, none⟩)] W (Ret W (.int .i64 R))) := Lib.hid (fun W hW => by rw [hR]; exact hrf ⟨bn, bd, by_, bs⟩ W hW)
      have HE := Lib.hid (heap_alloc_new w (.cells #[.int .i64 bd, .int .i64 by_, .int .i64 bs] 91))
      have HH := Lib.hid hh
      have HS := Lib.hid hs
      have hgd := HB.out.good _ (List.mem_of_find?_eq_some hh)
      have hdd : 0 ≤ bd ∧ bd ≤ 1099511627776 := hgd.d
      have hus := HB.out.us
      have hlm := HB.out.lim
      have hud : bd ≤ usedOf l := used_ge HB.out.good hh hs
      clear hh hrf hs hR hgd
      by_cases hr : R = 0
      · have tr : (R != 0) = false := by simp [hr]
        have HQ : Hid (leaveC l n rf = 0) := Lib.hid (HQ0.out.trans hr)
        clear hr
        obtain ⟨U, hU⟩ : ∃ U, U = usedOf l := ⟨_, rfl⟩
        rw [← hU] at c1 hus hud
        have HUU := Lib.hid hU
        obtain ⟨D, hD⟩ : ∃ D, D = U - bd := ⟨_, rfl⟩
        have eD : wrap64 (U - bd) = D := by rw [hD]; exact wrap_q (by omega)
        have HDD := Lib.hid hD
        clear hU hD hus hlm hdd hud
        go_enter Try.func41, Try.ntmps41
        go_wp2_with (first
          | ((with_reducible refine Mp.wpl_got (l := es) (key := n) ?_ ?_ ?_ Try.underlying93 Try.underlying9 (zeroEnt _) (HM.out _ (Below.refl _ _)) HG.out ?_); rfl; rfl; rfl)
          | ((with_reducible refine (HRF.out _ (one_below _ _)).mono ?_); rintro e w2 ⟨rfl, hb2⟩; have HB2 := Lib.hid (below_then (one_below _ _) hb2); have HE2 := Lib.hid (blk hb2 (lt_blk HE.out) HE.out); have HX2 := Lib.hid (blk HB2.out (lt_blk HB.out.box) HB.out.box); clear hb2)
          | fail)
        clear c0 c1 c2
        have x0 := cell_blk HX2.out 0
        have x1 := cell_blk HX2.out 1
        have x2 := cell_blk HX2.out 2
        rw [← HUU.out] at x1
        have y0 := cell_blk HE2.out 0
        have y1 := cell_blk HE2.out 1
        have y2 := cell_blk HE2.out 2
        have fx := free_blk HX2.out 1
        have fy := free_blk HE2.out 2
        obtain ⟨be, hbe⟩ : ∃ b, b = w.heap.size := ⟨_, rfl⟩
        rw [← hbe] at y0 y1 y2 fy ⊢
        have HNB : Hid (¬ be = bp) := Lib.hid (by have := lt_blk HB.out.box; omega)
        have HBE := Lib.hid hbe
        clear hbe
        go_still_tail 9, (by kernel_rfl)
        change wpList _ _ _ _ _ w2.drew
        go_wp2_with fail
        obtain ⟨w4, hw4⟩ : ∃ x, x = ((w2.setCell ⟨bp, 1, none⟩ (.int .i64 D)).setCell ⟨be, 2, none⟩ (.int .i64 st)).drew := ⟨_, rfl⟩
        have HX4 : Hid (w4.heap[bp]? = some (.cells #[.int .i64 L, .int .i64 D, .map (some bm)] 95 (0, 0))) := Lib.hid (by
          rw [hw4]; exact (Below.heap_setCell _ _ _ _ (fun e => HNB.out e.symm)).trans (blk_set1 HX2.out _))
        have HE4 : Hid (w4.heap[be]? = some (.cells #[.int .i64 bd, .int .i64 by_, .int .i64 st] 91 (0, 0))) := Lib.hid (by
          rw [hw4]; exact blk_set2 ((Below.heap_setCell _ _ _ _ (fun e => HNB.out e)).trans (by rw [HBE.out]; exact HE2.out)) _)
        have HM4 : Hid (Mp.MapAt w4 bm es) := Lib.hid (by
          rw [hw4]
          have hm2 := HM.out _ HB2.out
          have hlt := (HM.out _ (Below.refl _ _)).lt
          exact hm2.same ((Below.heap_setCell _ _ _ _ (fun e => by have := HBE.out; have e' : bm = be := e; omega)).trans (Below.heap_setCell _ _ _ _ (fun e => HB.out.ne e))))
        have HK4 : Hid (Keep (fun k => k = bp ∨ k = bm) w w4) := Lib.hid (by
          rw [hw4]
          have k1 : Keep (fun k => k = bp ∨ k = bm) w (w2.setCell ⟨bp, 1, none⟩ (.int .i64 D)) := (Keep.of_below HB2.out).trans (Keep.of_grown (grown_set w2 bp 1 _)) (fun i _ e => .inl (Option.some.inj e).symm)
          have k2 : Keep (fun k => k = bp ∨ k = bm) w ((w2.setCell ⟨bp, 1, none⟩ (.int .i64 D)).setCell ⟨be, 2, none⟩ (.int .i64 st)) := k1.trans (Keep.of_grown (grown_set _ be 2 _)) (fun i hi e => by have := HBE.out; have e' := Option.some.inj e; omega)
          exact k2.trans (Keep.drew (fun _ => False) _ 1) (fun _ _ e => e.elim))
        rw [← hw4]
        clear hw4 x0 x1 x2 y0 y1 y2 fx fy
        have x2 := cell_blk HX4.out 2
        have y0 := cell_blk HE4.out 0
        have y1 := cell_blk HE4.out 1
        have y2 := cell_blk HE4.out 2
        go_still_tail 6, (by kernel_rfl)
        change wpList _ _ _ _ _ w4.drew
        go_wp2_with (first
          | ((with_reducible refine Mp.wpl_update (b := bm) (l := es) (key := n) (v := .agg #[.int .i64 bd, .int .i64 by_, .int .i64 st]) ?_ ?_ ?_ ?_ Try.underlying93 Try.underlying9 (HM4.out.same rfl) ?_); rfl; rfl; rfl; rfl; intro w5 hm5 hg5 hz5; have HM5 := Lib.hid hm5; have HG5 := Lib.hid hg5; clear hm5 hg5 hz5)
          | fail)
        go_ret
        exact leaveOk HB.out HQ.out HH.out HS.out HST.out HP.out HND.out HK4.out HX4.out HDD.out HUU.out HG5.out HM5.out
      · have tr : (R != 0) = true := by simp [hr]
        have HR := Lib.hid hr
        clear hr
        go_enter Try.func41, Try.ntmps41
        go_wp2_with (first
          | ((with_reducible refine Mp.wpl_got (l := es) (key := n) ?_ ?_ ?_ Try.underlying93 Try.underlying9 (zeroEnt _) (HM.out _ (Below.refl _ _)) HG.out ?_); rfl; rfl; rfl)
          | ((with_reducible refine (HRF.out _ (one_below _ _)).mono ?_); rintro e w2 ⟨rfl, hb2⟩; have HB2 := Lib.hid (below_then (one_below _ _) hb2); have HE2 := Lib.hid (blk hb2 (lt_blk HE.out) HE.out); have HX2 := Lib.hid (blk HB2.out (lt_blk HB.out.box) HB.out.box); clear hb2)
          | fail)
        go_ret
        exact leaveBad HB.out HQ0.out HR.out HB2.out
    · have ts : (bs != 0) = true := by simp [hs]
      have HQ := Lib.hid (leaveC_gone (rf := rf) hh hs)
      have HE := Lib.hid (heap_alloc_new w (.cells #[.int .i64 bd, .int .i64 by_, .int .i64 bs] 91))
      clear hh hrf hs
      go_enter Try.func41, Try.ntmps41
      go_wp2_with (first
        | ((with_reducible refine Mp.wpl_got (l := es) (key := n) ?_ ?_ ?_ Try.underlying93 Try.underlying9 (zeroEnt _) (HM.out _ (Below.refl _ _)) HG.out ?_); rfl; rfl; rfl)
        | fail)
      go_ret
      exact leaveBad HB.out HQ.out (by decide) (one_below _ _)

set_option maxHeartbeats 8000000 in
theorem leave2_any (l : List Bx) (L : Int) (bp bm : Nat) (n : ByteArray) (st : Int) (rf : Bx → Int) (q1 q2 : Nat) (w : World) (h : Bst w bp bm L l) (hst : st = 1 ∨ st = 2)
    (hrf : ∀ (b : Bx) W, Below w.heap.size w W → Calls Try.prog 59 #[b.val, .pointer (some ⟨q1, 0, none⟩), .pointer (some ⟨q2, 0, none⟩)] W (Ret W (.int .i64 (rf b)))) :
    Calls Try.prog 41 #[.pointer (some ⟨bp, 0, none⟩), .string n, .int .i64 st, .func (.func 59) #[] #[.pointer (some ⟨q1, 0, none⟩), .pointer (some ⟨q2, 0, none⟩)]] w (BondP w bp bm L (leaveL l n st rf) (.int .i64 (leaveC l n rf))) := by
  have HB := Lib.hid h
  obtain ⟨es, hm, hp⟩ := h.map
  have HP := Lib.hid hp
  have HM : Hid (∀ W, Below w.heap.size w W → Mp.MapAt W bm es) := Lib.hid (fun W hW => hm.same (hW.block _ hm.lt))
  have HND := Lib.hid hm.nodup
  have c0 := cell_blk h.box 0
  have c1 := cell_blk h.box 1
  have c2 := cell_blk h.box 2
  have HST := Lib.hid hst
  clear h hm hp hst
  cases hh : boxOf l n with
  | none =>
    have HG := Lib.hid (bget_none HP.out (boxOf_none hh))
    have HQ := Lib.hid (leaveC_none (rf := rf) hh)
    clear hh hrf
    go_enter Try.func41, Try.ntmps41
    go_wp2_with (first
      | ((with_reducible refine Mp.wpl_miss (l := es) (key := n) ?_ ?_ ?_ Try.underlying93 Try.underlying9 (zeroEnt _) (HM.out _ (Below.refl _ _)) HG.out ?_); rfl; rfl; rfl)
      | fail)
    go_ret
    exact leaveBad HB.out HQ.out (by decide) (one_below _ _)
  | some b =>
    have HG0 := Lib.hid (boxOf_get HP.out HND.out hh)
    obtain ⟨bn, bd, by_, bs⟩ := b
    have HG := HG0
    simp only [Bx.val] at HG
    by_cases hs : bs = 0
    · have ts : (bs != 0) = false := by simp [hs]
      obtain ⟨R, hR⟩ : ∃ R, R = rf ⟨bn, bd, by_, bs⟩ := ⟨_, rfl⟩
      have HQ0 : Hid (leaveC l n rf = R) := Lib.hid (by rw [hR]; exact leaveC_some hh hs)
      have HRF : Hid (∀ W, Below w.heap.size w W → Calls Try.prog 59 #[.agg #[.int .i64 bd, .int .i64 by_, .int .i64 bs], .pointer (some ⟨q1, 0, none⟩), .pointer (some ⟨q2, 0, none⟩)] W (Ret W (.int .i64 R))) := Lib.hid (fun W hW => by rw [hR]; exact hrf ⟨bn, bd, by_, bs⟩ W hW)
      have HE := Lib.hid (heap_alloc_new w (.cells #[.int .i64 bd, .int .i64 by_, .int .i64 bs] 91))
      have HH := Lib.hid hh
      have HS := Lib.hid hs
      have hgd := HB.out.good _ (List.mem_of_find?_eq_some hh)
      have hdd : 0 ≤ bd ∧ bd ≤ 1099511627776 := hgd.d
      have hus := HB.out.us
      have hlm := HB.out.lim
      have hud : bd ≤ usedOf l := used_ge HB.out.good hh hs
      clear hh hrf hs hR hgd
      by_cases hr : R = 0
      · have tr : (R != 0) = false := by simp [hr]
        have HQ : Hid (leaveC l n rf = 0) := Lib.hid (HQ0.out.trans hr)
        clear hr
        obtain ⟨U, hU⟩ : ∃ U, U = usedOf l := ⟨_, rfl⟩
        rw [← hU] at c1 hus hud
        have HUU := Lib.hid hU
        obtain ⟨D, hD⟩ : ∃ D, D = U - bd := ⟨_, rfl⟩
        have eD : wrap64 (U - bd) = D := by rw [hD]; exact wrap_q (by omega)
        have HDD := Lib.hid hD
        clear hU hD hus hlm hdd hud
        go_enter Try.func41, Try.ntmps41
        go_wp2_with (first
          | ((with_reducible refine Mp.wpl_got (l := es) (key := n) ?_ ?_ ?_ Try.underlying93 Try.underlying9 (zeroEnt _) (HM.out _ (Below.refl _ _)) HG.out ?_); rfl; rfl; rfl)
          | ((with_reducible refine (HRF.out _ (one_below _ _)).mono ?_); rintro e w2 ⟨rfl, hb2⟩; have HB2 := Lib.hid (below_then (one_below _ _) hb2); have HE2 := Lib.hid (blk hb2 (lt_blk HE.out) HE.out); have HX2 := Lib.hid (blk HB2.out (lt_blk HB.out.box) HB.out.box); clear hb2)
          | fail)
        clear c0 c1 c2
        have x0 := cell_blk HX2.out 0
        have x1 := cell_blk HX2.out 1
        have x2 := cell_blk HX2.out 2
        rw [← HUU.out] at x1
        have y0 := cell_blk HE2.out 0
        have y1 := cell_blk HE2.out 1
        have y2 := cell_blk HE2.out 2
        have fx := free_blk HX2.out 1
        have fy := free_blk HE2.out 2
        obtain ⟨be, hbe⟩ : ∃ b, b = w.heap.size := ⟨_, rfl⟩
        rw [← hbe] at y0 y1 y2 fy ⊢
        have HNB : Hid (¬ be = bp) := Lib.hid (by have := lt_blk HB.out.box; omega)
        have HBE := Lib.hid hbe
        clear hbe
        go_still_tail 9, (by kernel_rfl)
        change wpList _ _ _ _ _ w2.drew
        go_wp2_with fail
        obtain ⟨w4, hw4⟩ : ∃ x, x = ((w2.setCell ⟨bp, 1, none⟩ (.int .i64 D)).setCell ⟨be, 2, none⟩ (.int .i64 st)).drew := ⟨_, rfl⟩
        have HX4 : Hid (w4.heap[bp]? = some (.cells #[.int .i64 L, .int .i64 D, .map (some bm)] 95 (0, 0))) := Lib.hid (by
          rw [hw4]; exact (Below.heap_setCell _ _ _ _ (fun e => HNB.out e.symm)).trans (blk_set1 HX2.out _))
        have HE4 : Hid (w4.heap[be]? = some (.cells #[.int .i64 bd, .int .i64 by_, .int .i64 st] 91 (0, 0))) := Lib.hid (by
          rw [hw4]; exact blk_set2 ((Below.heap_setCell _ _ _ _ (fun e => HNB.out e)).trans (by rw [HBE.out]; exact HE2.out)) _)
        have HM4 : Hid (Mp.MapAt w4 bm es) := Lib.hid (by
          rw [hw4]
          have hm2 := HM.out _ HB2.out
          have hlt := (HM.out _ (Below.refl _ _)).lt
          exact hm2.same ((Below.heap_setCell _ _ _ _ (fun e => by have := HBE.out; have e' : bm = be := e; omega)).trans (Below.heap_setCell _ _ _ _ (fun e => HB.out.ne e))))
        have HK4 : Hid (Keep (fun k => k = bp ∨ k = bm) w w4) := Lib.hid (by
          rw [hw4]
          have k1 : Keep (fun k => k = bp ∨ k = bm) w (w2.setCell ⟨bp, 1, none⟩ (.int .i64 D)) := (Keep.of_below HB2.out).trans (Keep.of_grown (grown_set w2 bp 1 _)) (fun i _ e => .inl (Option.some.inj e).symm)
          have k2 : Keep (fun k => k = bp ∨ k = bm) w ((w2.setCell ⟨bp, 1, none⟩ (.int .i64 D)).setCell ⟨be, 2, none⟩ (.int .i64 st)) := k1.trans (Keep.of_grown (grown_set _ be 2 _)) (fun i hi e => by have := HBE.out; have e' := Option.some.inj e; omega)
          exact k2.trans (Keep.drew (fun _ => False) _ 1) (fun _ _ e => e.elim))
        rw [← hw4]
        clear hw4 x0 x1 x2 y0 y1 y2 fx fy
        have x2 := cell_blk HX4.out 2
        have y0 := cell_blk HE4.out 0
        have y1 := cell_blk HE4.out 1
        have y2 := cell_blk HE4.out 2
        go_still_tail 6, (by kernel_rfl)
        change wpList _ _ _ _ _ w4.drew
        go_wp2_with (first
          | ((with_reducible refine Mp.wpl_update (b := bm) (l := es) (key := n) (v := .agg #[.int .i64 bd, .int .i64 by_, .int .i64 st]) ?_ ?_ ?_ ?_ Try.underlying93 Try.underlying9 (HM4.out.same rfl) ?_); rfl; rfl; rfl; rfl; intro w5 hm5 hg5 hz5; have HM5 := Lib.hid hm5; have HG5 := Lib.hid hg5; clear hm5 hg5 hz5)
          | fail)
        go_ret
        exact leaveOk HB.out HQ.out HH.out HS.out HST.out HP.out HND.out HK4.out HX4.out HDD.out HUU.out HG5.out HM5.out
      · have tr : (R != 0) = true := by simp [hr]
        have HR := Lib.hid hr
        clear hr
        go_enter Try.func41, Try.ntmps41
        go_wp2_with (first
          | ((with_reducible refine Mp.wpl_got (l := es) (key := n) ?_ ?_ ?_ Try.underlying93 Try.underlying9 (zeroEnt _) (HM.out _ (Below.refl _ _)) HG.out ?_); rfl; rfl; rfl)
          | ((with_reducible refine (HRF.out _ (one_below _ _)).mono ?_); rintro e w2 ⟨rfl, hb2⟩; have HB2 := Lib.hid (below_then (one_below _ _) hb2); have HE2 := Lib.hid (blk hb2 (lt_blk HE.out) HE.out); have HX2 := Lib.hid (blk HB2.out (lt_blk HB.out.box) HB.out.box); clear hb2)
          | fail)
        go_ret
        exact leaveBad HB.out HQ0.out HR.out HB2.out
    · have ts : (bs != 0) = true := by simp [hs]
      have HQ := Lib.hid (leaveC_gone (rf := rf) hh hs)
      have HE := Lib.hid (heap_alloc_new w (.cells #[.int .i64 bd, .int .i64 by_, .int .i64 bs] 91))
      clear hh hrf hs
      go_enter Try.func41, Try.ntmps41
      go_wp2_with (first
        | ((with_reducible refine Mp.wpl_got (l := es) (key := n) ?_ ?_ ?_ Try.underlying93 Try.underlying9 (zeroEnt _) (HM.out _ (Below.refl _ _)) HG.out ?_); rfl; rfl; rfl)
        | fail)
      go_ret
      exact leaveBad HB.out HQ.out (by decide) (one_below _ _)


end Go.Proofs.Ytehlhfcaajhhaaa.Sc
