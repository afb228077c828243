/- A receipt told, the stock, a copy of the house. -/
import Derived.Test.YticnmmfiadpbbaaGreatOutH25
import Derived.Test.YticnmmfiadpbbaaGreatAnyB
import Derived.Test.YticnmmfiadpbbaaGreatPassH25
namespace Go.Proofs.YticnmmfiadpbbaaGreat.Sc
open Go Go.RowKit Go.ChangeShapes Go.WideShapes Go.ChangeAt
set_option maxRecDepth 100000

theorem lts_one (l : List Lt) : ∀ u ∈ ltCells l, u.oneCell' = true := by
  intro u hu
  obtain ⟨y, _, hy⟩ := List.mem_flatMap.1 hu
  simp only [Lt.row, List.mem_cons, List.not_mem_nil, or_false] at hy
  rcases hy with rfl | rfl <;> rfl
set_option maxHeartbeats 1000000 in
theorem cloneLot_any (l : List Lt) (v : Value) (w : World) (hs : Sl w 2 v (l.map Lt.row)) (hlen : l.length ≤ 1000000) : Calls Tryz.prog 59 #[v] w (RetRow w 47 2 l.length (ltCells l)) := by
  obtain ⟨i0, hi, hz, hsz, hby⟩ := info_parts infoLt
  have HI := Lib.hid (And.intro hi (And.intro hz (And.intro hsz hby)))
  clear hi hz hsz hby
  have hsrc := (hs.below (one_below w (.cells #[] 47)) (Nat.le_refl _)).src (by intro r hr; obtain ⟨d, _, rfl⟩ := List.mem_map.1 hr; rfl) (by decide)
  rw [List.length_map, show (l.map Lt.row).flatten = ltCells l from by simp [ltCells, List.flatMap]] at hsrc
  have HSRC := Lib.hid hsrc
  obtain ⟨a, c, rfl⟩ : ∃ a c, v = .slice a l.length c := by simpa using hs.shape
  have HL : Hid (0 + l.length ≤ maxLen ∧ (0 + l.length) * 24 ≤ 140737488355328) := Lib.hid (by simp only [maxLen]; omega)
  cases a with
  | none =>
    have h0 : l = [] ∧ c = 0 := by
      rcases hs with ⟨h, a, c', hv, hn⟩ | ⟨b, off, cap, hv, _⟩
      · simp only [Value.slice.injEq] at hv
        exact ⟨by simpa using h, by rw [hv.2.2]; exact hn hv.1.symm⟩
      · cases hv
    obtain ⟨rfl, rfl⟩ := h0
    clear hs hsrc HSRC HL
    have hq := fun w : World => Lib.run_eql_slice_nil (P := Tryz.prog) w
    go_enter Tryz.func59, Tryz.ntmps59
    go_wp2
    go_ret
    exact ⟨_, rfl, World.ownsRow_nil _ _ _ _, Below.refl _ _⟩
  | some ad =>
    clear hs hsrc hlen
    generalize l.length = n at *
    have hq : ∀ w : World, (binOp .eql 32 (.slice (some ad) n c) (.slice none 0 0)).run Tryz.prog w = .ok (.bool false) w := fun _ => rfl
    go_enter Tryz.func59, Tryz.ntmps59
    go_wp2_with (first
      | ((refine Any.wpl_append (size := 2) (bytes := 24) (n := 0) (m := n) (base := w.heap.size) (vx := .slice (some ⟨w.heap.size, 0, none⟩) 0 0) (vy := .slice (some ad) n c) ?_ ?_ ?_ Tryz.underlying32 HI.out.1 HI.out.2.1 HI.out.2.2.1 HI.out.2.2.2 ?_ (by decide) (own_empty (Nat.le_refl _)) HSRC.out (lts_one _) HL.out.1 HL.out.2 (by simp) ?_); rfl; rfl; rfl; rfl; intro v1 w1 hown1 hgrow1 hwho1)
      | fail)
    go_ret
    refine ⟨v1, rfl, by simpa using hown1, (one_below w (.cells #[] 47)).grown hgrow1 (by simp) (fun k hk => by have : w.heap.size = k := Option.some.inj hk; omega)⟩
def CopyRP (w : World) (r : Rc) (e : Ending) (w' : World) : Prop := Below w.heap.size w w' ∧ ∃ v, e = .returned (.agg (Rv.cells ⟨r, v⟩)) ∧ w'.ownsRow w.heap.size 47 2 v r.lots.length (ltCells r.lots)
theorem crRes : (Tryz.f21).results = #[.cell 2 34] := by kernel_rfl
set_option maxHeartbeats 2000000 in
theorem copyR_any (r : Rc) (lv : Value) (w : World) (hs : Sl w 2 lv (r.lots.map Lt.row)) (hl : r.lots.length ≤ 1000000) : Calls Tryz.prog 21 #[.agg (Rv.cells ⟨r, lv⟩)] w (CopyRP w r) := by
  obtain ⟨xn, xh, xo, xl, xd⟩ := r
  simp only at hs hl
  obtain ⟨ax, cx, elv⟩ := hs.shape
  simp only [List.length_map] at elv
  subst elv
  have HA := allocs [.cells #[.string xn, .string xh, .string xo, .slice ax xl.length cx, .int .i64 xd] 34, .cells #[.string ⟨#[]⟩, .string ⟨#[]⟩, .string ⟨#[]⟩, .slice none 0 0, .int .i64 0] 34] w
  simp only [List.foldl_cons, List.foldl_nil, List.length_cons, List.length_nil] at HA
  obtain ⟨W0, hW0⟩ : ∃ W, W = ((w.alloc (.cells #[.string xn, .string xh, .string xo, .slice ax xl.length cx, .int .i64 xd] 34)).alloc (.cells #[.string ⟨#[]⟩, .string ⟨#[]⟩, .string ⟨#[]⟩, .slice none 0 0, .int .i64 0] 34)) := ⟨_, rfl⟩
  rw [← hW0] at HA
  obtain ⟨hb, hz, hx⟩ := HA
  have HX0 := Lib.hid (hx 0 _ rfl)
  have HX1 := Lib.hid (hx 1 _ rfl)
  have HB := Lib.hid hb
  have HZ := Lib.hid hz
  have HCL := Lib.hid (cloneLot_any xl _ W0 (hs.below hb (Nat.le_refl _)) hl)
  have c3 := cell_blk (hx 0 _ rfl) 3
  simp only [Nat.add_zero, List.getElem?_toArray, List.getElem?_cons_succ, List.getElem?_cons_zero] at c3
  have e0 := hW0.symm
  have HOX : Hid (∀ u ∈ ltCells xl, u.oneCell' = true) := Lib.hid (lts_one xl)
  simp only [Rv.cells]
  clear hb hz hx hW0 hs hl
  go_enter Tryz.func21, Tryz.ntmps21
  go_wp2_with (first
    | ((with_reducible refine HCL.out.mono ?_); rintro e w1 ⟨v1, rfl, ho1, hb1⟩; obtain ⟨a1, c1, e1⟩ := row_shape ho1; subst e1
       have HO1 := Lib.hid ho1; have HB1 := Lib.hid hb1; have HX01 := Lib.hid (blk hb1 (lt_blk HX0.out) HX0.out); have HX11 := Lib.hid (blk hb1 (lt_blk HX1.out) HX1.out)
       have HK1 := Lib.hid (set_keep w1 w.heap.size 3 (.slice a1 xl.length c1)); have HY := Lib.hid (set_five (u := .slice a1 xl.length c1) HX01.out); have HZ1 := Lib.hid (HK1.out.blk HX11.out (fun e => by omega))
       have d3 := cell_blk HX01.out 3; have zf := free_blk HX01.out 3; obtain ⟨e0', e1', e2', e3', e4'⟩ := five_blk HY.out; simp only [Nat.add_zero, List.getElem?_toArray, List.getElem?_cons_succ, List.getElem?_cons_zero] at d3 zf e0' e1' e2' e3' e4'; clear ho1 hb1 c3 e0)
    | (refine wpList_store_row (P := Tryz.prog) rfl 34 (.tmp 2) (.tmp 7) rfl (w.heap.size + 1) #[.string xn, .string xh, .string xo, .slice a1 xl.length c1, .int .i64 xd] rfl rfl _ _ HZ1.out (by kernel_rfl) rfl (by simp [Value.oneCell']) ?_)
    | fail)
  have HF := Lib.hid (setRow_at (cs := #[.string xn, .string xh, .string xo, .slice a1 xl.length c1, .int .i64 xd]) HZ1.out)
  have HKR := Lib.hid (setRow_keep (w1.setCell ⟨w.heap.size, 3, none⟩ (.slice a1 xl.length c1)) (w.heap.size + 1) #[.string xn, .string xh, .string xo, .slice a1 xl.length c1, .int .i64 xd])
  ((try simp only [Exit.inBlock, Exit.then]); refine bodyPost_ret (results_cell_row crRes _ _ (w.heap.size + 1) _ _ (0, 0) _ rfl HF.out Tryz.underlying34 rfl (by kernel_rfl)) rfl ?_)
  refine ⟨HKR.out.behind (HK1.out.behind (HB.out.trans (HB1.out.mono HB.out.size)) (Nat.le_trans HB.out.size HB1.out.size) (fun q hq e => by omega)) (Nat.le_trans (Nat.le_trans HB.out.size HB1.out.size) HK1.out.size) (fun q hq e => by omega), _, rfl, ?_⟩
  exact ownsRow_base (ownsRow_keep (ownsRow_keep HO1.out HK1.out (fun b hb e => by have h1 := (HO1.out.lt b hb).1; have := HZ.out; omega)) HKR.out (fun b hb e => by have h1 := (HO1.out.lt b hb).1; have := HZ.out; omega)) HB.out.size
def zeroR : Rc := ⟨⟨#[]⟩, ⟨#[]⟩, ⟨#[]⟩, [], 0⟩
def getR (h : Hs) (n : ByteArray) : Rc := (rfind h.L n).getD zeroR
theorem rc_look {w : World} {bh bm bu : Nat} {h : Hs} {es us : Mp.Ents} (H : HsAt w bh bm bu h es us) (n : ByteArray) : ∃ lv, Mp.look true (Mp.mget es n) (.agg #[.string ⟨#[]⟩, .string ⟨#[]⟩, .string ⟨#[]⟩, .slice none 0 0, .int .i64 0]) = .tuple #[.agg (Rv.cells ⟨getR h n, lv⟩), .bool (thereB h n)] ∧
    Sl w 2 lv ((getR h n).lots.map Lt.row) := by
  unfold getR thereB
  cases hr : rfind h.L n with
  | none => exact ⟨.slice none 0 0, by rw [H.miss n hr]; rfl, .inl ⟨rfl, none, 0, rfl, fun _ => rfl⟩⟩
  | some r =>
    obtain ⟨lv, h1, h2⟩ := H.hit n r hr
    exact ⟨lv, by rw [h1]; rfl, h2⟩
theorem getR_len {k : Nat} {h : Hs} (hok : HsOk k h) (n : ByteArray) : (getR h n).lots.length ≤ 64 := by
  unfold getR
  cases hr : rfind h.L n with
  | none => simp [zeroR]
  | some r => exact (hok.all r (rfind_some hr).1).len
def GetHP (w : World) (h : Hs) (n : ByteArray) (e : Ending) (w' : World) : Prop := Below w.heap.size w w' ∧ ∃ lv, e = .returned (.tuple #[.agg (Rv.cells ⟨getR h n, lv⟩), .bool (thereB h n)]) ∧ Sl w' 2 lv ((getR h n).lots.map Lt.row)
theorem ghRes : (Tryz.f7).results = #[.cell 4 34, .tmp 5] := by kernel_rfl
set_option maxHeartbeats 4000000 in
theorem getH_any {k bh bm bu : Nat} {h : Hs} (n : ByteArray) (w : World) (H : Hsx w bh bm bu h) (hok : HsOk k h) : Calls Tryz.prog 7 #[.pointer (some ⟨bh, 0, none⟩), .string n] w (GetHP w h n) := by
  obtain ⟨es, us, H⟩ := H
  obtain ⟨lv, hg, hs⟩ := rc_look H n
  have hgl := getR_len hok n
  obtain ⟨r, hr⟩ : ∃ r, r = getR h n := ⟨_, rfl⟩
  obtain ⟨t, ht⟩ : ∃ t, t = thereB h n := ⟨_, rfl⟩
  rw [← hr, ← ht] at hg
  rw [← hr] at hs hgl
  have HGP : Hid (∀ e w', (Below w.heap.size w w' ∧ ∃ lv, e = .returned (.tuple #[.agg (Rv.cells ⟨r, lv⟩), .bool t]) ∧ Sl w' 2 lv (r.lots.map Lt.row)) → GetHP w h n e w') := Lib.hid (fun e w' q => by unfold GetHP; rw [← hr, ← ht]; exact q)
  obtain ⟨xn, xh, xo, xl, xd⟩ := r
  obtain ⟨ax, cx, elv⟩ := hs.shape
  simp only [List.length_map] at elv
  subst elv
  simp only [Rv.cells] at hg
  have HG := Lib.hid hg
  have HX := Lib.hid H.box
  have HRM := Lib.hid H.rm
  have HA := allocs [.cells #[.string ⟨#[]⟩, .string ⟨#[]⟩, .string ⟨#[]⟩, .slice none 0 0, .int .i64 0] 34, .cells #[.string xn, .string xh, .string xo, .slice ax xl.length cx, .int .i64 xd] 34] w
  simp only [List.foldl_cons, List.foldl_nil, List.length_cons, List.length_nil] at HA
  obtain ⟨W0, hW0⟩ : ∃ W, W = ((w.alloc (.cells #[.string ⟨#[]⟩, .string ⟨#[]⟩, .string ⟨#[]⟩, .slice none 0 0, .int .i64 0] 34)).alloc (.cells #[.string xn, .string xh, .string xo, .slice ax xl.length cx, .int .i64 xd] 34)) := ⟨_, rfl⟩
  rw [← hW0] at HA
  obtain ⟨hb, hz, hx⟩ := HA
  have HX0 := Lib.hid (hx 0 _ rfl)
  have HB := Lib.hid hb
  have HZ := Lib.hid hz
  have HCR := Lib.hid (copyR_any ⟨xn, xh, xo, xl, xd⟩ _ W0 (hs.below hb (Nat.le_refl _)) (by have := hgl; simp only at this ⊢; omega))
  simp only [Rv.cells] at HCR
  have HA1 := Lib.hid (one_below w (.cells #[.string ⟨#[]⟩, .string ⟨#[]⟩, .string ⟨#[]⟩, .slice none 0 0, .int .i64 0] 34))
  have k1 := cell_blk (blk HA1.out (lt_blk HX.out) HX.out) 1
  obtain ⟨d0, d1, d2, d3, d4⟩ := five_blk (hx 1 _ rfl)
  simp only [List.getElem?_toArray, List.getElem?_cons_succ, List.getElem?_cons_zero] at k1
  have e0 := hW0.symm
  clear hb hz hx hW0 hs hr ht H hg hgl
  go_enter Tryz.func7, Tryz.ntmps7
  go_wp2_with (first
    | ((with_reducible refine Mp.wpl_lookup (l := es) (key := n) ?_ ?_ ?_ Tryz.underlying58 Tryz.underlying9 (zeroRc _) (HRM.out.same (HA1.out.block _ HRM.out.lt)) ?_); rfl; rfl; rfl; rw [HG.out])
    | fail)
  refine HCR.out.mono ?_
  rintro e w1 ⟨hb1, v1, rfl, ho1⟩
  obtain ⟨a1, c1, e1⟩ := row_shape ho1
  subst e1
  have HO1 := Lib.hid ho1
  have HB1 := Lib.hid hb1
  have HX01 := Lib.hid (blk hb1 (lt_blk HX0.out) HX0.out)
  rw [Nat.add_zero] at HX01
  simp only [Rv.cells]
  clear ho1 hb1 d0 d1 d2 d3 d4 k1 e0 HCR
  go_wp2_with (first
    | (refine wpList_store_row (P := Tryz.prog) rfl 34 (.tmp 4) (.tmp 18) rfl w.heap.size #[.string xn, .string xh, .string xo, .slice a1 xl.length c1, .int .i64 xd] rfl rfl _ _ HX01.out (by kernel_rfl) rfl (by simp [Value.oneCell']) ?_)
    | fail)
  have HF := Lib.hid (setRow_at (cs := #[.string xn, .string xh, .string xo, .slice a1 xl.length c1, .int .i64 xd]) HX01.out)
  have HKR := Lib.hid (setRow_keep w1 w.heap.size #[.string xn, .string xh, .string xo, .slice a1 xl.length c1, .int .i64 xd])
  ((try simp only [Exit.inBlock, Exit.then]); refine bodyPost_ret (results_row_tmp ghRes _ _ w.heap.size _ _ (0, 0) _ (.bool t) rfl rfl HF.out Tryz.underlying34 rfl (by kernel_rfl)) rfl ?_)
  refine HGP.out _ _ ⟨HKR.out.behind (HB.out.trans (HB1.out.mono HB.out.size)) (Nat.le_trans HB.out.size HB1.out.size) (fun q hq e => by omega), _, rfl, ?_⟩
  exact own_lots (ownsRow_keep HO1.out HKR.out (fun b hb e => by have h1 := (HO1.out.lt b hb).1; have := HZ.out; omega)) rfl
end Go.Proofs.YticnmmfiadpbbaaGreat.Sc
namespace Go.Proofs.YticnmmfiadpbbaaGreat.Sc
open Go Go.RowKit Go.ChangeShapes Go.WideShapes Go.ChangeAt
set_option maxRecDepth 100000

/-- The receipts that are still to come. -/
def restL (todo : Mp.Ents) (L : List Rc) : List Rc := L.filter fun r => (Mp.mget todo r.num).isSome
theorem rfind_filter (p : ByteArray → Bool) (L : List Rc) (m : ByteArray) : rfind (L.filter fun r => p r.num) m = if p m = true then rfind L m else none := by
  induction L with
  | nil => simp [rfind]
  | cons a r ih =>
    by_cases h1 : p a.num = true
    · rw [List.filter_cons_of_pos (by simpa using h1), rfind, ih, rfind]
      by_cases h2 : a.num = m
      · rw [if_pos h2, if_pos h2, if_pos (by rw [← h2]; exact h1)]
      · rw [if_neg h2, if_neg h2]
    · rw [List.filter_cons_of_neg (by simpa using h1), ih, rfind]
      by_cases h2 : a.num = m
      · rw [if_pos h2, if_neg (by rw [← h2]; exact h1), if_neg (by rw [← h2]; exact h1)]
      · rw [if_neg h2]
theorem restL_del (todo : Mp.Ents) (L : List Rc) (key : ByteArray) : restL (Mp.mdel todo key) L = rdel (restL todo L) key := by
  unfold restL rdel
  rw [List.filter_filter]
  refine List.filter_congr fun r _ => ?_
  rw [Mp.mget_mdel]
  by_cases h : key = r.num
  · simp [h]
  · have : ¬ r.num = key := fun e => h e.symm
    simp [h, this]
theorem rdel_len {l : List Rc} (hu : l.Pairwise fun a b => bt a.num < bt b.num) {n : ByteArray} {r : Rc} (h : rfind l n = some r) : (allL l).length = r.lots.length + (allL (rdel l n)).length := by
  induction l with
  | nil => cases h
  | cons a s ih =>
    have h1 := List.pairwise_cons.1 hu
    rw [rfind] at h
    split at h
    · rename_i h2
      obtain rfl := Option.some.inj h
      have : rdel (a :: s) n = s := by
        rw [rdel, List.filter_cons_of_neg (by simp [h2])]
        refine rdel_none fun x hx e => ?_
        have := h1.1 x hx
        rw [h2, e] at this
        exact List.lt_irrefl _ this
      rw [this]
      simp [allL]
    · rename_i h2
      have : rdel (a :: s) n = a :: rdel s n := by rw [rdel, List.filter_cons_of_pos (by simp [h2])]; rfl
      rw [this]
      have := ih h1.2 h
      simp only [allL, List.flatMap_cons, List.length_append] at this ⊢
      omega
theorem restL_all {w : World} {bh bm bu : Nat} {h : Hs} {es us : Mp.Ents} (H : HsAt w bh bm bu h es us) : restL es h.L = h.L ∨ ¬ (h.L.Pairwise fun a b => bt a.num < bt b.num) := by
  by_cases hp : h.L.Pairwise fun a b => bt a.num < bt b.num
  · left
    refine List.filter_eq_self.2 fun r hr => ?_
    obtain ⟨lv, h1, -⟩ := H.hit r.num r (rfind_mem hp hr)
    rw [h1]; rfl
  · exact .inr hp
theorem restL_nil (L : List Rc) : restL [] L = [] := by
  refine List.filter_eq_nil_iff.2 fun r _ => ?_
  simp [Mp.mget]
/-- A receipt that comes up in the range. -/
theorem comes {w : World} {bh bm bu : Nat} {h : Hs} {es us todo : Mp.Ents} (H : HsAt w bh bm bu h es us) (hnd : (Mp.mkeys es).Nodup) {key : ByteArray} {sv : Value} (hm : (key, sv) ∈ todo) (hsub : ∀ q, q ∈ todo → q ∈ es) (hnt : (Mp.mkeys todo).Nodup) :
    ∃ r lv, sv = .agg (Rv.cells ⟨r, lv⟩) ∧ rfind h.L key = some r ∧ rfind (restL todo h.L) key = some r ∧ Sl w 2 lv (r.lots.map Lt.row) := by
  have h1 := Mp.mget_of_mem hnd (hsub _ hm)
  have h2 := Mp.mget_of_mem hnt hm
  cases hr : rfind h.L key with
  | none => rw [H.miss key hr] at h1; cases h1
  | some r =>
    obtain ⟨lv, h3, h4⟩ := H.hit key r hr
    rw [h3] at h1
    refine ⟨r, lv, (Option.some.inj h1).symm, rfl, ?_, h4⟩
    unfold restL
    rw [rfind_filter (fun n => (Mp.mget todo n).isSome), if_pos (by rw [h2]; rfl), hr]
set_option maxHeartbeats 8000000 in
theorem stockH_any {k bh bm bu : Nat} {h : Hs} (w : World) (H : Hsx w bh bm bu h) (hok : HsOk k h) (hlen : (allL h.L).length ≤ 100000) (hll : h.L.length ≤ 900000) :
    Calls Tryz.prog 17 #[.pointer (some ⟨bh, 0, none⟩)] w (RetRow w 47 2 (stockL h).length (ltCells (stockL h))) := by
  obtain ⟨es, us, H⟩ := H
  have HH := Lib.hid H
  have HND := Lib.hid H.rm.nodup
  have hra := (restL_all H).resolve_right (fun q => q hok.up)
  have HUP := Lib.hid hok.up
  have HTL : Hid ((∀ g, posTot (allL h.L) g ≤ 4611686018427387904) ∧ (allL h.L).length ≤ 100000) := Lib.hid ⟨fun g => by have := allL_tot hok g; omega, hlen⟩
  have HRA := Lib.hid hra
  have k1 := cell_blk H.box 1
  simp only [List.getElem?_toArray, List.getElem?_cons_succ, List.getElem?_cons_zero] at k1
  obtain ⟨i0, hi, hz, hsz, hby⟩ := info_parts infoLt
  have HI := Lib.hid (And.intro hi (And.intro hz (And.intro hsz hby)))
  clear H hra hok hlen hll hi hz hsz hby
  go_enter Tryz.func17, Tryz.ntmps17
  go_wp2_with (first
    | ((with_reducible refine Mp.wpl_range ?_ ?_ Tryz.underlying58 HH.out.rm ?_); rfl; rfl; intro w2 hit2 hal2; have HIT2 := Lib.hid hit2; have HB2 : Hid (Below w.heap.size w w2 ∧ w2.heap.size = w.heap.size + 1) := Lib.hid (by obtain ⟨o, rfl⟩ := hal2; exact ⟨one_below _ _, by simp⟩); clear hit2 hal2 k1; go_frame)
    | fail)
  go_loopw [3] (fun a wr => ∃ (A : List Lt) (todo : Mp.Ents), wr.ownsRow (w.heap.size + 1) 47 2 a A.length (ltCells A) ∧ (∀ g, posTot A g + posTot (allL (restL todo h.L)) g = posTot (allL h.L) g) ∧ A.length + (allL (restL todo h.L)).length = (allL h.L).length ∧
    Mp.IterAt wr w.heap.size bm es todo ∧ Below w.heap.size w wr ∧ (∀ q, q ∈ todo → q ∈ es) ∧ (Mp.mkeys todo).Nodup) (fun _ wr => Mp.itLeft wr w.heap.size bm)
  case atStart =>
    exact ⟨[], es, World.ownsRow_nil _ _ _ _, by rw [HRA.out]; simp [posTot], by rw [HRA.out]; simp, HIT2.out, HB2.out.1, fun _ h => h, HND.out⟩
  case round =>
    obtain ⟨A, todo, hown, htot, hlen, hit, hbel, hsub, hnt⟩ := hrel
    have HOWN := Lib.hid hown
    have HTOT := Lib.hid htot
    have HLEN := Lib.hid hlen
    have HIT := Lib.hid hit
    have HBEL := Lib.hid hbel
    have HSUB := Lib.hid hsub
    have HNT := Lib.hid hnt
    have HWS : Hid (w.heap.size + 1 ≤ wr.heap.size) := Lib.hid hit.lt.1
    clear hown htot hlen hit hbel hsub hnt
    go_wp2_with (first
      | ((with_reducible refine Mp.wpl_next ?_ ?_ HIT.out ?_ ?_); rfl; rfl)
      | fail)
    · intro h0
      have HJ := Lib.hid (join_all A _ wr (own_lots HOWN.out rfl) (by have := HLEN.out; have := HTL.out.2; omega) (fun g => by have h1 := HTOT.out g; have h2 := HTL.out.1 g; have h3 := posTot_nonneg (allL (restL todo h.L)) g; omega))
      have HJE : Hid (joinL A = stockL h) := Lib.hid (norm_ext (joinL_norm _) (joinL_norm _) fun g => by
        show posTot (joinL A) g = posTot (joinL (allL h.L)) g
        rw [joinL_tot, joinL_tot]
        have h1 := HTOT.out g
        rw [h0, restL_nil] at h1
        simpa [allL, posTot] using h1)
      rw [HJE.out] at HJ
      clear h0
      go_wp2_with (first
        | ((with_reducible refine HJ.out.mono ?_); rintro e w6 ⟨v6, rfl, ho6, hb6⟩; have HO6 := Lib.hid ho6; have HB6 := Lib.hid (HBEL.out.trans (hb6.mono HBEL.out.size)); clear ho6 hb6)
        | fail)
      go_ret
      exact retRow HO6.out HBEL.out.size HB6.out
    · intro key sv wc hmem hitc hgc hsc hen
      obtain ⟨r, lv, rfl, hr1, hr2, hsl⟩ := comes HH.out HND.out hmem HSUB.out HNT.out
      have HKC := Lib.hid (Keep.of_grown hgc)
      have HITC := Lib.hid hitc
      have HSC := Lib.hid hsc
      have HMEM := Lib.hid hmem
      have HBELC : Hid (Below w.heap.size w wc) := Lib.hid (HKC.out.behind HBEL.out HBEL.out.size (fun k hk e => by have := Option.some.inj e; omega))
      have HXS : Hid (Sl wc 2 lv (r.lots.map Lt.row)) := Lib.hid (hsl.below HBELC.out (Nat.le_refl _))
      have HOWNC := Lib.hid (ownsRow_keep HOWN.out HKC.out (fun b hb e => by have h1 := (HOWN.out.lt b hb).1; have h2 := Option.some.inj e; omega))
      have HT1 : Hid (∀ g, posTot (A ++ r.lots) g + posTot (allL (restL (Mp.mdel todo key) h.L)) g = posTot (allL h.L) g) := Lib.hid (fun g => by
        rw [restL_del, posTot_append]
        have h1 := rdel_tot (HUP.out.filter _) hr2 g
        have h2 := HTOT.out g
        unfold restL at h2 ⊢
        omega)
      have HL1 : Hid ((A ++ r.lots).length + (allL (restL (Mp.mdel todo key) h.L)).length = (allL h.L).length) := Lib.hid (by
        rw [restL_del, List.length_append]
        have h1 := rdel_len (HUP.out.filter _) hr2
        have h2 := HLEN.out
        unfold restL at h2 ⊢
        omega)
      obtain ⟨xn, xh, xo, xl, xd⟩ := r
      obtain ⟨ax, cx, elv⟩ := hsl.shape
      simp only [List.length_map] at elv
      subst elv
      simp only [Rv.cells] at hen
      have HSZ : Hid (w.heap.size + 1 ≤ wc.heap.size) := Lib.hid (by have := HWS.out; omega)
      have HB5 := Lib.hid (one_below wc (.cells #[.string xn, .string xh, .string xo, .slice ax xl.length cx, .int .i64 xd] 34))
      have HSR := Lib.hid (Sl.src (HXS.out.below HB5.out (Nat.le_refl _)) (lt_rows xl) (by decide))
      rw [List.length_map, ← ltCells_flat] at HSR
      have HO5 := Lib.hid (ownsRow_below HOWNC.out HB5.out)
      have HL : Hid (A.length + xl.length ≤ maxLen ∧ (A.length + xl.length) * 24 ≤ 140737488355328 ∧ w.heap.size + 1 ≤ (wc.alloc (.cells #[.string xn, .string xh, .string xo, .slice ax xl.length cx, .int .i64 xd] 34)).heap.size) := Lib.hid (by
        have h1 := HL1.out
        have h2 := HTL.out.2
        have h3 := HB5.out.size
        have h4 := HSZ.out
        simp only [List.length_append] at h1
        simp only [maxLen]
        omega)
      have HONE : Hid (∀ u ∈ ltCells xl, u.oneCell' = true) := Lib.hid (lts_one xl)
      clear hmem hitc hgc hsc hr1 hr2 hsl
      simp only [Rv.cells]
      go_wp2_with (first
        | ((with_reducible refine Any.wpl_cat ?_ ?_ ?_ Tryz.underlying32 HI.out.1 HI.out.2.1 HI.out.2.2.1 HI.out.2.2.2 ?_ (by decide) HO5.out HSR.out HONE.out HL.out.1 HL.out.2.1 HL.out.2.2 ?_); rfl; rfl; rfl; rfl; intro v6 w6 hown6 hgrow6 hwho6
           have HO6 := Lib.hid hown6; have HK6 := Lib.hid (Keep.of_grown hgrow6); have HG6 := Lib.hid hgrow6; clear hown6 hgrow6 hwho6 hen)
        | fail)
      have HB6 : Hid (Below w.heap.size w w6) := Lib.hid ((HBELC.out.trans (HB5.out.mono HBELC.out.size)).grown HG6.out (Nat.le_trans HBELC.out.size HB5.out.size) (fun k hk => by have := (HO5.out.lt k hk).1; omega))
      have HIT6 : Hid (Mp.IterAt w6 w.heap.size bm es (Mp.mdel todo key)) := Lib.hid (IterAt.keep (HITC.out.same (HB5.out.block _ HITC.out.lt.1) (HB5.out.block _ HITC.out.lt.2)) HK6.out (fun e => by have := (HO5.out.lt _ e).1; omega) (fun e => by have h1 := (HO5.out.lt _ e).1; have h2 := HH.out.lt.2.1; omega))
      go_roundw
      case rel => exact ⟨A ++ xl, Mp.mdel todo key, by rw [List.length_append, ltCells_append]; exact HO6.out, HT1.out, HL1.out, HIT6.out, HB6.out, fun q hq => HSUB.out q (List.mem_filter.1 hq).1, Mp.mdel_nodup key HNT.out⟩
      case measure =>
        rw [Mp.itLeft_eq HIT6.out, Mp.itLeft_eq HIT.out]
        exact Mp.mdel_lt HMEM.out
end Go.Proofs.YticnmmfiadpbbaaGreat.Sc
namespace Go.Proofs.YticnmmfiadpbbaaGreat.Any
open Go Go.RowKit
set_option maxRecDepth 100000
/-- A struct that a call tells, whose cell k is a row of the call's own. -/
def held (k : Nat) (cells : Value → Array Value) (B : Nat) (e : TypeId) (size n : Nat) (xs : List Value) : Spec :=
  ⟨fun v w => ∃ s, v = .agg (cells s) ∧ (cells s).getD k undef = s ∧ w.ownsRow B e size s n xs, aggOwn k, []⟩
theorem lasts_held {w0 : World} (k : Nat) (cells : Value → Array Value) (B : Nat) (e : TypeId) (size n : Nat) (xs : List Value) : Lasts (held k cells B e size n xs) w0 :=
  ⟨fun v w h b hb => by
    obtain ⟨s, rfl, h1, h2⟩ := h
    simp only [held, aggOwn, h1] at hb
    exact (h2.lt b hb).2, fun v w w' h _ _ _ hk => by
    obtain ⟨s, rfl, h1, h2⟩ := h
    exact ⟨s, rfl, h1, ownsRow_same h2 fun b hb => hk b (by simp only [held, aggOwn, h1]; exact hb)⟩⟩
end Go.Proofs.YticnmmfiadpbbaaGreat.Any
namespace Go.Proofs.YticnmmfiadpbbaaGreat.Sc
open Go Go.RowKit Go.ChangeShapes Go.WideShapes Go.ChangeAt
set_option maxRecDepth 100000

theorem HsAt.like {w : World} {bh bm bu : Nat} {nm : ByteArray} {L1 L2 : List Rc} {U1 U2 : List ByteArray} {es us : Mp.Ents} (H : HsAt w bh bm bu ⟨nm, L1, U1⟩ es us) (h1 : ∀ n, rfind L1 n = rfind L2 n) (h2 : ∀ n, memB n U1 = memB n U2) (h3 : U1.length = U2.length) : HsAt w bh bm bu ⟨nm, L2, U2⟩ es us :=
  ⟨H.box, H.rm, H.um, fun n r hr => H.hit n r ((h1 n).trans hr), fun n hr => H.miss n ((h1 n).trans hr), fun n => by rw [H.uses n]; show (if memB n U1 = true then _ else _) = if memB n U2 = true then _ else _; rw [h2], H.ul.trans h3, H.ne⟩
theorem iter_no_cell {w : World} {r b : Nat} {l todo : Mp.Ents} (h : Mp.IterAt w r b l todo) (j : Nat) : w.cell? ⟨r, j, none⟩ = none := by
  obtain ⟨es, clock, since, seen, c0, hr, _⟩ := h
  simp [World.cell?, hr]
/-- .. where an iterator alone turns. -/
theorem HsAt.iter {w w' : World} {bh bm bu bi b : Nat} {h : Hs} {es us l todo : Mp.Ents} (H : HsAt w bh bm bu h es us) (k : Keep (fun q => some bi = some q) w w') (h1 : bi ≠ bm) (h2 : bi ≠ bu) (_ : bi ≠ bh) (hi : Mp.IterAt w bi b l todo) : HsAt w' bh bm bu h es us :=
  H.keepM k (fun q e j => by obtain rfl := Option.some.inj e; exact iter_no_cell hi j) (fun e => h1 (Option.some.inj e)) (fun e => h2 (Option.some.inj e))
def CopyHP (w : World) (h : Hs) (e : Ending) (w' : World) : Prop := Below w.heap.size w w' ∧ ∃ bh bm bu, e = .returned (.pointer (some ⟨bh, 0, none⟩)) ∧ Hsx w' bh bm bu h ∧ w.heap.size ≤ bh ∧ w.heap.size ≤ bm ∧ w.heap.size ≤ bu
set_option maxHeartbeats 8000000 in
theorem copyH_any {k bh bm bu : Nat} {h : Hs} (w : World) (H : Hsx w bh bm bu h) (hok : HsOk k h) :
    Calls Tryz.prog 18 #[.pointer (some ⟨bh, 0, none⟩)] w (CopyHP w h) := by
  obtain ⟨es, us, H⟩ := H
  have HH := Lib.hid H
  have HND := Lib.hid H.rm.nodup
  have HNU := Lib.hid H.um.nodup
  have HOK := Lib.hid hok
  have HNW := Lib.hid (newH_any h.name w)
  have k0 : w.cell? ⟨bh, 0, none⟩ = some (.string h.name) := cell_blk H.box 0
  clear H hok
  go_enter Tryz.func18, Tryz.ntmps18
  go_wp2_with fail
  refine HNW.out.mono ?_
  rintro e w1 ⟨hb1, bh2, bm2, bu2, rfl, hx1, g1, g2, g3⟩
  have HB1 := Lib.hid hb1
  have HX1 := Lib.hid hx1
  have HG := Lib.hid (And.intro g1 (And.intro g2 g3))
  have HH1 := Lib.hid (HH.out.below hb1)
  have k1 := cell_blk HH1.out.box 1
  simp only [List.getElem?_toArray, List.getElem?_cons_succ, List.getElem?_cons_zero] at k1
  clear hb1 hx1 g1 g2 g3 k0
  go_wp2_with (first
    | ((with_reducible refine Mp.wpl_range ?_ ?_ Tryz.underlying58 HH1.out.rm ?_); rfl; rfl; intro w2 hit2 hal2; have HIT2 := Lib.hid hit2; have HB2 : Hid (Below w1.heap.size w1 w2 ∧ w2.heap.size = w1.heap.size + 1) := Lib.hid (by obtain ⟨o, rfl⟩ := hal2; exact ⟨one_below _ _, by simp⟩); clear hit2 hal2 k1; go_frame)
    | fail)
  obtain ⟨bi, hbi⟩ : ∃ b, b = w1.heap.size := ⟨_, rfl⟩
  rw [← hbi] at HIT2 ⊢
  have HBW2 : Hid (Below w.heap.size w w2) := Lib.hid (HB1.out.trans (HB2.out.1.mono HB1.out.size))
  have HX2 := Lib.hid (HX1.out.below HB2.out.1)
  obtain ⟨e1, u1, hh1⟩ := HX1.out
  have HBI : Hid (bi ≠ bm2 ∧ bi ≠ bu2 ∧ bm < w.heap.size ∧ bu < w.heap.size ∧ w.heap.size ≤ bi ∧ bi ≠ bh2) := Lib.hid ⟨by have := hh1.lt; omega, by have := hh1.lt; omega, HH.out.lt.2.1, HH.out.lt.2.2, by rw [hbi]; exact HB1.out.size, by have := hh1.lt; omega⟩
  clear hh1 hbi HX1
  go_loopw [4, 5] (fun _ _ wr => ∃ (P : List Rc) (todo : Mp.Ents), Mp.IterAt wr bi bm es todo ∧ Below w.heap.size w wr ∧ Hsx wr bh2 bm2 bu2 ⟨h.name, P, []⟩ ∧ (∀ n, rfind P n = if (Mp.mget todo n).isSome = true then none else rfind h.L n) ∧ (∀ q, q ∈ todo → q ∈ es) ∧ (Mp.mkeys todo).Nodup) (fun _ _ wr => Mp.itLeft wr bi bm)
  case atStart =>
    refine ⟨[], es, HIT2.out, HBW2.out, HX2.out, fun n => ?_, fun _ h => h, HND.out⟩
    cases hr : rfind h.L n with
    | none => simp [rfind]
    | some r =>
      obtain ⟨lv, h1, -⟩ := HH.out.hit n r hr
      rw [h1]; rfl
  case round =>
    obtain ⟨P, todo, hit, hbel, hhx, hrf, hsub, hnt⟩ := hrel
    have HIT := Lib.hid hit
    have HBEL := Lib.hid hbel
    have HHX := Lib.hid hhx
    have HRF := Lib.hid hrf
    have HSUB := Lib.hid hsub
    have HNT := Lib.hid hnt
    clear hit hbel hhx hrf hsub hnt
    go_wp2_with (first
      | ((with_reducible refine Mp.wpl_next ?_ ?_ HIT.out ?_ ?_); rfl; rfl)
      | fail)
    · intro h0
      have HHZ : Hid (Hsx wr bh2 bm2 bu2 ⟨h.name, h.L, []⟩) := Lib.hid (by
        obtain ⟨e2, u2, hh⟩ := HHX.out
        refine ⟨e2, u2, hh.like (fun n => ?_) (fun _ => rfl) rfl⟩
        rw [HRF.out, h0]; rfl)
      have HHO := Lib.hid (HH.out.below HBEL.out)
      have k2 := cell_blk HHO.out.box 2
      simp only [List.getElem?_toArray, List.getElem?_cons_succ, List.getElem?_cons_zero] at k2
      clear h0
      go_wp2_with (first
        | ((with_reducible refine Mp.wpl_range ?_ ?_ Tryz.underlying59 HHO.out.um ?_); rfl; rfl; intro w3 hit3 hal3; have HIT3 := Lib.hid hit3; have HB3 : Hid (Below wr.heap.size wr w3) := Lib.hid (by obtain ⟨o, rfl⟩ := hal3; exact one_below _ _); clear hit3 hal3 k2; go_frame)
        | fail)
      obtain ⟨bj, hbj⟩ : ∃ b, b = wr.heap.size := ⟨_, rfl⟩
      rw [← hbj] at HIT3 ⊢
      have HBW3 : Hid (Below w.heap.size w w3) := Lib.hid (HBEL.out.trans (HB3.out.mono HBEL.out.size))
      have HHZ3 := Lib.hid (HHZ.out.below HB3.out)
      obtain ⟨e1, u1, hh1⟩ := HHZ.out
      have HBJ : Hid (bj ≠ bm2 ∧ bj ≠ bu2 ∧ bj ≠ bh2 ∧ w.heap.size ≤ bj) := Lib.hid ⟨by have := hh1.lt; omega, by have := hh1.lt; omega, by have := hh1.lt; omega, by rw [hbj]; exact HBEL.out.size⟩
      clear hh1 hbj
      go_loopw [6] (fun _ wz => ∃ (U : List ByteArray) (todo : Mp.Ents), Mp.IterAt wz bj bu us todo ∧ Below w.heap.size w wz ∧ Hsx wz bh2 bm2 bu2 ⟨h.name, h.L, U⟩ ∧ (∀ n, memB n U = (memB n h.used && !(Mp.mget todo n).isSome)) ∧ U.length + todo.length = h.used.length ∧ (∀ q, q ∈ todo → q ∈ us) ∧ (Mp.mkeys todo).Nodup) (fun _ wz => Mp.itLeft wz bj bu)
      case atStart =>
        refine ⟨[], us, HIT3.out, HBW3.out, HHZ3.out, fun n => ?_, by rw [HH.out.ul]; simp, fun _ h => h, HNU.out⟩
        rw [HH.out.uses]
        cases memB n h.used <;> rfl
      case round =>
        obtain ⟨U, todo, hit, hbel, hhx, hmu, hlu, hsub, hnt⟩ := hrel
        have HITz := Lib.hid hit
        have HBELz := Lib.hid hbel
        have HHXz := Lib.hid hhx
        have HMU := Lib.hid hmu
        have HLU := Lib.hid hlu
        have HSUBz := Lib.hid hsub
        have HNTz := Lib.hid hnt
        clear hit hbel hhx hmu hlu hsub hnt
        go_wp2_with (first
          | ((with_reducible refine Mp.wpl_next ?_ ?_ HITz.out ?_ ?_); rfl; rfl)
          | fail)
        · intro h0
          have HFIN : Hid (Hsx wr bh2 bm2 bu2 h) := Lib.hid (by
            obtain ⟨e2, u2, hh⟩ := HHXz.out
            refine ⟨e2, u2, hh.like (fun _ => rfl) (fun n => ?_) ?_⟩
            · rw [HMU.out, h0]; simp [Mp.mget]
            · have := HLU.out; rw [h0] at this; simpa using this)
          clear h0
          go_wp2_with fail
          go_ret
          exact ⟨HBELz.out, bh2, bm2, bu2, rfl, HFIN.out, HG.out.1, HG.out.2.1, HG.out.2.2⟩
        · intro key sv wc hmem hitc hgc hsc hen
          have hkc := Keep.of_grown hgc
          have HBELC : Hid (Below w.heap.size w wc) := Lib.hid (hkc.behind HBELz.out HBELz.out.size (fun k hk e => by have := Option.some.inj e; have := HBJ.out; omega))
          have HITC := Lib.hid hitc
          have HMEM := Lib.hid hmem
          obtain ⟨es2, us2, hhx⟩ := HHXz.out
          have HHC : Hid (HsAt wc bh2 bm2 bu2 ⟨h.name, h.L, U⟩ es2 us2) := Lib.hid (hhx.iter hkc HBJ.out.1 HBJ.out.2.1 HBJ.out.2.2.1 HITz.out)
          have hg1 := Mp.mget_of_mem HNTz.out hmem
          have hg2 := Mp.mget_of_mem HNU.out (HSUBz.out _ hmem)
          have HKU : Hid (memB key h.used = true) := Lib.hid (by
            cases e : memB key h.used with
            | true => rfl
            | false => rw [HH.out.uses, e, if_neg (by decide)] at hg2; cases hg2)
          have HKN : Hid (memB key U = false) := Lib.hid (by rw [HMU.out, hg1]; simp)
          have k3 := cell_blk HHC.out.box 2
          simp only [List.getElem?_toArray, List.getElem?_cons_succ, List.getElem?_cons_zero] at k3
          have HUM := Lib.hid HHC.out.um
          clear hmem hitc hgc hsc hkc hhx hg1 hg2
          go_wp2_with (first
            | ((with_reducible refine Mp.wpl_update (b := bu2) (l := us2) (key := key) (v := .bool true) ?_ ?_ ?_ ?_ Tryz.underlying59 Tryz.underlying9 HUM.out ?_); rfl; rfl; rfl; rfl; intro w7 hm7 hg7 hz7; have HM7 := Lib.hid hm7; have HK7 : Hid (Keep (fun b => b = bu2) wc w7) := Lib.hid ((Keep.of_grown hg7).mono fun _ _ e => (Option.some.inj e).symm); clear hm7 hg7 hz7; go_frame)
            | fail)
          have HH7 := Lib.hid (HHC.out.use (h' := ⟨h.name, h.L, U ++ [key]⟩) HK7.out HM7.out rfl rfl rfl HKN.out)
          have HIT7 : Hid (Mp.IterAt w7 bj bu us (Mp.mdel todo key)) := Lib.hid (IterAt.keep HITC.out HK7.out (fun e => HBJ.out.2.1 e) (fun e => by have h1 := HBI.out; have h2 := HG.out; omega))
          have HB7 : Hid (Below w.heap.size w w7) := Lib.hid (HK7.out.behind HBELC.out HBELC.out.size (fun q hq e => by have h2 := HG.out; omega))
          go_roundw
          case rel =>
            refine ⟨U ++ [key], Mp.mdel todo key, HIT7.out, HB7.out, ⟨_, _, HH7.out⟩, fun n => ?_, ?_, fun q hq => HSUBz.out q (List.mem_filter.1 hq).1, Mp.mdel_nodup key HNTz.out⟩
            · rw [memB_app, Mp.mget_mdel]
              by_cases e : key = n
              · subst e
                rw [if_pos rfl, HKU.out]
                simp [memB]
              · rw [if_neg e, HMU.out]
                have : memB n [key] = false := by rw [memB_no]; simpa using fun q : n = key => e q.symm
                rw [this, Bool.or_false]
            · have h1 := (Mp.perm_mdel HNTz.out HMEM.out).length_eq
              have h2 := HLU.out
              rw [List.length_append]
              simp only [List.length_cons, List.length_nil] at h1 ⊢
              omega
          case measure =>
            rw [Mp.itLeft_eq HIT7.out, Mp.itLeft_eq HITz.out]
            exact Mp.mdel_lt HMEM.out
    · intro key sv wc hmem hitc hgc hsc hen
      have hkc := Keep.of_grown hgc
      obtain ⟨r, lv, rfl, hr1, -, hsl⟩ := comes HH.out HND.out hmem HSUB.out HNT.out
      have HBELC : Hid (Below w.heap.size w wc) := Lib.hid (hkc.behind HBEL.out HBEL.out.size (fun k hk e => by have := Option.some.inj e; have := HBI.out; omega))
      have HITC := Lib.hid hitc
      have HMEM := Lib.hid hmem
      have HXS := Lib.hid (hsl.below HBELC.out (Nat.le_refl _))
      obtain ⟨es2, us2, hhx⟩ := HHX.out
      have HHC : Hid (HsAt wc bh2 bm2 bu2 ⟨h.name, P, []⟩ es2 us2) := Lib.hid (hhx.iter hkc HBI.out.1 HBI.out.2.1 HBI.out.2.2.2.2.2 HIT.out)
      have HRL := Lib.hid (HOK.out.all r (rfind_some hr1).1).len
      have HRN := Lib.hid (rfind_some hr1).2
      have HR1 := Lib.hid hr1
      obtain ⟨xn, xh, xo, xl, xd⟩ := r
      obtain ⟨ax, cx, elv⟩ := hsl.shape
      simp only [List.length_map] at elv
      subst elv
      simp only [Rv.cells] at hen
      clear hmem hitc hgc hsc hsl hkc hhx hr1
      have HB5 := Lib.hid (one_below wc (.cells #[.string xn, .string xh, .string xo, .slice ax xl.length cx, .int .i64 xd] 34))
      have HY5 := Lib.hid (heap_alloc_new wc (.cells #[.string xn, .string xh, .string xo, .slice ax xl.length cx, .int .i64 xd] 34))
      have HHC5 := Lib.hid (HHC.out.below HB5.out)
      have HX5 := Lib.hid HHC5.out.box
      have HRM5 := Lib.hid HHC5.out.rm
      go_wp2_with fail
      obtain ⟨bq, hbq⟩ : ∃ b, b = wc.heap.size := ⟨_, rfl⟩
      obtain ⟨B9, hB9⟩ : ∃ b, b = wc.heap.size := ⟨_, rfl⟩
      have HB9' : Hid (B9 ≤ (wc.alloc (.cells #[.string xn, .string xh, .string xo, .slice ax xl.length cx, .int .i64 xd] 34)).heap.size) := Lib.hid (by rw [hB9]; exact HB5.out.size)
      have HB9w : Hid (w.heap.size ≤ B9) := Lib.hid (by rw [hB9]; exact HBELC.out.size)
      obtain ⟨w5, hw5⟩ : ∃ W, W = wc.alloc (.cells #[.string xn, .string xh, .string xo, .slice ax xl.length cx, .int .i64 xd] 34) := ⟨_, rfl⟩
      rw [← hw5] at HB5 HY5 HHC5 HX5 HRM5 HB9' ⊢
      rw [← hbq] at HY5 ⊢
      have HB9 := Lib.hid HB9'.out
      have HBW5 : Hid (Below w.heap.size w w5) := Lib.hid (HBELC.out.trans (HB5.out.mono HBELC.out.size))
      have HCR := Lib.hid (fun W (hb : Below w5.heap.size w5 W) => copyR_any ⟨xn, xh, xo, xl, xd⟩ (.slice ax xl.length cx) W ((HXS.out.below HB5.out (Nat.le_refl _)).below hb (Nat.le_refl _)) (by have := HRL.out; simp only at this ⊢; omega))
      simp only [Rv.cells] at HCR
      clear hbq hB9 hw5 HB9'
      refine Any.region_litL (fun
        | 0 => Any.val (.pointer (some ⟨bh2, 0, none⟩))
        | 1 => Any.val (.pointer (some ⟨bh2, 0, none⟩))
        | 2 => Any.val (.pointer (some ⟨bh2, 1, none⟩))
        | 3 => Any.val (.map (some bm2))
        | 4 => Any.val (.string key)
        | 5 => Any.val (.agg #[.string xn, .string xh, .string xo, .slice ax xl.length cx, .int .i64 xd])
        | 6 => Any.held 3 (fun s => #[.string xn, .string xh, .string xo, s, .int .i64 xd]) B9 47 2 xl.length (ltCells xl)
        | _ => Any.idle) 7 _ (by kernel_rfl) rfl rfl rfl (by kernel_rfl) (by kernel_rfl) (by kernel_rfl) ?_ ?_ ?_
      · intro i _
        match i with
        | 0 => exact Any.lasts_val _
        | 1 => exact Any.lasts_val _
        | 2 => exact Any.lasts_val _
        | 3 => exact Any.lasts_val _
        | 4 => exact Any.lasts_val _
        | 5 => exact Any.lasts_val _
        | 6 => exact Any.lasts_held _ _ _ _ _ _ _
        | n + 7 => exact Any.lasts_idle
      · simp only [List.take_succ_cons, List.take_zero]
        refine ⟨?_, ?_, ?_, ?_, ?_, ?_, ?_, trivial⟩
        · refine Any.owes_plain rfl fun ρ wo hs' hb hc' => ?_
          have h3 : ρ (.tmp 3) = .pointer (some ⟨bh2, 0, none⟩) := hs'.old' 3 (by kernel_rfl)
          exact Any.ok_move (Any.post_val hb rfl h3)
        · refine Any.owes_plain rfl fun ρ wo hs' hb hc' => ?_
          have h22 : ρ (.tmp 22) = .pointer (some ⟨bh2, 0, none⟩) := hs'.new' 22 0 (by kernel_rfl)
          go_simp
          exact Any.post_val hb rfl rfl
        · refine Any.owes_plain rfl fun ρ wo hs' hb hc' => ?_
          have h23 : ρ (.tmp 23) = .pointer (some ⟨bh2, 0, none⟩) := hs'.new' 23 1 (by kernel_rfl)
          go_simp
          exact Any.post_val hb rfl rfl
        · refine Any.owes_plain rfl fun ρ wo hs' hb hc' => ?_
          have h24 : ρ (.tmp 24) = .pointer (some ⟨bh2, 1, none⟩) := hs'.new' 24 2 (by kernel_rfl)
          obtain ⟨c0, c1, c2⟩ := cells3_blk (blk (below_undrew hb) (lt_blk HX5.out) HX5.out)
          go_simp
          exact Any.post_val hb rfl rfl
        · refine Any.owes_plain rfl fun ρ wo hs' hb hc' => ?_
          have h4 : ρ (.tmp 4) = .string key := hs'.old' 4 (by kernel_rfl)
          exact Any.ok_move (Any.post_val hb rfl h4)
        · refine Any.owes_plain rfl fun ρ wo hs' hb hc' => ?_
          have h5 : ρ (.tmp 5) = .pointer (some ⟨bq, 0, none⟩) := hs'.old' 5 (by kernel_rfl)
          obtain ⟨y0, y1, y2, y3, y4⟩ := five_blk (blk (below_undrew hb) (lt_blk HY5.out) HY5.out)
          go_simp
          exact Any.post_val hb rfl rfl
        · refine Any.owes_plain rfl fun ρ wo hs' hb hc' => ?_
          have h27 : ρ (.tmp 27) = .agg #[.string xn, .string xh, .string xo, .slice ax xl.length cx, .int .i64 xd] := hs'.new' 27 5 (by kernel_rfl)
          have hf := hs'.func 21
          go_simp
          exact (HCR.out wo (below_undrew hb)).mono fun e w' ⟨hb', v, he, ho⟩ => ⟨_, he, Any.post_new hb ⟨v, rfl, rfl, ownsRow_base ho (Nat.le_trans HB9.out hb.size)⟩ hb' (fun b h => (ho.lt b h).1)⟩
      intro vals w6 hb hk
      have h3 : vals 3 = .map (some bm2) := hk 3 (by kernel_rfl)
      have h4 : vals 4 = .string key := hk 4 (by kernel_rfl)
      have hq : (Any.held 3 (fun s => #[.string xn, .string xh, .string xo, s, .int .i64 xd]) B9 47 2 xl.length (ltCells xl)).know (vals 6) w6 := hk 6 (by kernel_rfl)
      have h6 : vals 6 = .agg #[.string xn, .string xh, .string xo, Any.aggAt 3 (vals 6), .int .i64 xd] := by
        obtain ⟨s, q1, -, q2⟩ := hq
        rw [q1]; rfl
      have hs : w6.ownsRow B9 47 2 (Any.aggAt 3 (vals 6)) xl.length (ltCells xl) := by
        obtain ⟨s, q1, -, q2⟩ := hq
        rw [q1]; exact q2
      have HB6 := Lib.hid hb
      have HJ6 := Lib.hid hs
      have HR6 := Lib.hid (HRM5.out.same (hb.block _ HRM5.out.lt))
      clear hk hb hs hq
      simp only [List.take_succ_cons, List.take_zero, Any.putAll]
      go_frame
      simp only [Nat.zero_add, Nat.reduceAdd]
      generalize Any.aggAt 3 (vals 6) = s at h6 HJ6
      rw [h3, h4, h6]
      clear h3 h4 h6
      refine Mp.ok_update (P := Tryz.prog) (b := bm2) (l := es2) (key := key) Tryz.underlying58 Tryz.underlying9 rfl rfl rfl HR6.out ?_
      intro w7 hm7 hg7 hz7
      have HM7 := Lib.hid hm7
      have HK7 : Hid (Keep (fun b => b = bm2) w6 w7) := Lib.hid ((Keep.of_grown hg7).mono fun _ _ e => (Option.some.inj e).symm)
      clear hm7 hg7 hz7
      have HX6 := Lib.hid (HHC5.out.below HB6.out)
      have HBW6 : Hid (Below w.heap.size w w6) := Lib.hid (HBW5.out.trans (HB6.out.mono HBW5.out.size))
      have HH7 := Lib.hid (HX6.out.putR (h' := ⟨h.name, ⟨xn, xh, xo, xl, xd⟩ :: P, []⟩) (x := ⟨xn, xh, xo, xl, xd⟩) (lv := s) (n := key) HK7.out HM7.out
        ((own_lots HJ6.out rfl).keepM HK7.out (fun b hb j => by rw [show b = bm2 from hb]; exact map_no_cell HX6.out.rm j)) rfl rfl
        (fun m => by rw [← HRN.out]; rfl))
      have HIT7 : Hid (Mp.IterAt w7 bi bm es (Mp.mdel todo key)) := Lib.hid (IterAt.keep ((HITC.out.same (HB5.out.block _ HITC.out.lt.1) (HB5.out.block _ HITC.out.lt.2)).same (HB6.out.block _ (by have := HITC.out.lt.1; have := HB5.out.size; omega)) (HB6.out.block _ (by have := HITC.out.lt.2; have := HB5.out.size; omega))) HK7.out (fun e => HBI.out.1 e) (fun e => by have h1 := HBI.out; have h2 := HG.out; omega))
      have HB7 : Hid (Below w.heap.size w w7) := Lib.hid (HK7.out.behind HBW6.out HBW6.out.size (fun q hq e => by have h2 := HG.out; omega))
      go_wp2_with fail
      go_roundw
      case rel =>
        refine ⟨⟨xn, xh, xo, xl, xd⟩ :: P, Mp.mdel todo key, HIT7.out, HB7.out, ⟨_, _, HH7.out⟩, fun n => ?_, fun q hq => HSUB.out q (List.mem_filter.1 hq).1, Mp.mdel_nodup key HNT.out⟩
        rw [Mp.mget_mdel, rfind]
        have hrn : xn = key := HRN.out
        by_cases e : key = n
        · subst e
          rw [if_pos hrn, if_pos rfl, HR1.out]; rfl
        · rw [if_neg (by rw [hrn]; exact e), if_neg e, HRF.out]
      case measure =>
        rw [Mp.itLeft_eq HIT7.out, Mp.itLeft_eq HIT.out]
        exact Mp.mdel_lt HMEM.out
end Go.Proofs.YticnmmfiadpbbaaGreat.Sc
