/- Liens.Pay: by the program. -/
import Derived.Test.YtnlfhncbnfmccaaSym26
import Derived.Test.YtnlfhncbnfmccaaPayPl26
import Derived.Test.YtnlfhncbnfmccaaOwnC
import Derived.OwnWalk
namespace Go.Proofs.Ytnlfhncbnfmccaa.Sc
open Go Go.RowKit Go.ChangeShapes Go.WideShapes Go.ChangeAt
set_option maxRecDepth 100000

theorem size_al (w : World) (o : Obj) : (w.alloc o).heap.size = w.heap.size + 1 := by simp
theorem infoEn : (Try.prog.info? 35).map (fun i => (i.zero, i.size, i.bytes)) = some (some (.agg #[.string ⟨#[]⟩, .string ⟨#[]⟩, .int .i64 0]), 3, 40) := by kernel_rfl
theorem zeroI64 (w : World) : (zeroValue 2).run Try.prog w = .ok (.int .i64 0) w := by kernel_rfl
theorem ent_one (c : ByteArray) (m : Int) : ∀ u ∈ (#[Value.string c, .string ⟨#[]⟩, .int .i64 m] : Array Value).toList, u.oneCell' = true := by
  intro u hu
  simp at hu
  rcases hu with rfl | rfl | rfl <;> rfl
theorem entCells_snoc (l : List (ByteArray × Int)) (p : ByteArray × Int) : entCells (l ++ [p]) = entCells l ++ [.string p.1, .string ⟨#[]⟩, .int .i64 p.2] := by simp [entCells, entRow]
theorem pgCells_len (l : List Pg) : (pgCells l).length = l.length * 6 := by
  induction l with
  | nil => rfl
  | cons x r ih => simp only [pgCells, List.flatMap_cons, List.length_append, Pg.row, Pg.cells, List.length_cons, List.length_nil] at *; omega
theorem pgCells_at : ∀ {l : List Pg} {k : Nat} (h : k < l.length) (j : Nat) (_ : j < 6), (pgCells l)[k * 6 + j]? = l[k].row[j]?
  | x :: r, 0, _, j, hj => by
    rw [Nat.zero_mul, Nat.zero_add]
    show (x.row ++ pgCells r)[j]? = x.row[j]?
    exact List.getElem?_append_left hj
  | x :: r, k + 1, h, j, hj => by
    have ih := pgCells_at (l := r) (k := k) (by simpa using h) j hj
    have e : (k + 1) * 6 + j = 6 + (k * 6 + j) := by omega
    rw [e, List.getElem_cons_succ, ← ih]
    show (x.row ++ pgCells r)[6 + (k * 6 + j)]? = _
    rw [List.getElem?_append_right (by show 6 ≤ _; omega)]
    congr 1
    show 6 + (k * 6 + j) - 6 = _
    omega
theorem pgCells_set : ∀ {l : List Pg} {k : Nat} (h : k < l.length) (c : Int), (pgCells l).set (k * 6 + 4) (.int .i64 c) = pgCells (l.set k { l[k] with amt := c })
  | x :: r, 0, _, c => rfl
  | x :: r, k + 1, h, c => by
    have ih := pgCells_set (l := r) (k := k) (by simpa using h) c
    have e : (k + 1) * 6 + 4 = (k * 6 + 4) + 1 + 1 + 1 + 1 + 1 + 1 := by omega
    rw [e]
    simp only [List.set_cons_succ, List.getElem_cons_succ]
    show Value.string x.thing :: Value.string x.debtor :: Value.string x.cred :: Value.int .i64 x.day :: Value.int .i64 x.amt :: Value.bool x.held :: (pgCells r).set (k * 6 + 4) (.int .i64 c) = _
    rw [ih]
    rfl
theorem row_read {w : World} {B n : Nat} {e : TypeId} {g cap : Nat} {l : List Pg} (h : w.ownsRow B e 6 (.slice (some ⟨g, 0, none⟩) n cap) n (pgCells l)) {k : Nat} (hk : k < l.length) (j : Nat) (hj : j < 6) {u : Value} (hu : l[k].row[j]? = some u) : w.cell? ⟨g, k * 6 + j, none⟩ = some u := by
  have h1 := pgCells_at hk j hj
  have hlen : k * 6 + j < (pgCells l).length := by rw [pgCells_len]; omega
  rw [hu, List.getElem?_eq_getElem hlen] at h1
  exact (own_read h hlen).1.trans h1
theorem look_getD (r : Option Value) (z : Value) : Mp.look false r z = r.getD z := by cases r <;> rfl
theorem half_set {α : Type} {l : List α} {k : Nat} (h : k < l.length) (f : α → α) : ((l.take k).map f ++ l.drop k).set k (f l[k]) = (l.take (k + 1)).map f ++ l.drop (k + 1) := by
  have hl : ((l.take k).map f).length = k := by simp; omega
  rw [List.drop_eq_getElem_cons h, List.set_append_right _ _ (by omega), hl, Nat.sub_self, List.set_cons_zero, List.take_succ_eq_append_getElem h, List.map_append, List.append_assoc]
  rfl
theorem half_at {α : Type} {l : List α} {k : Nat} (h : k < l.length) (f : α → α) : ∃ h2 : k < ((l.take k).map f ++ l.drop k).length, ((l.take k).map f ++ l.drop k)[k] = l[k] := by
  refine ⟨by simp; omega, ?_⟩
  rw [List.getElem_append_right (by simp; omega)]
  simp [Nat.min_eq_left (Nat.le_of_lt h)]
/-- A thing's row is written in its place. -/
theorem LnAt.edit {w w' : World} {F : Nat → Prop} {bk bm n : Nat} {R : ByteArray → List Pg} {es : Mp.Ents} (h : LnAt w F bk bm R n es) {t : ByteArray} {r : List Pg} (hl : r.length = (R t).length) (k : Keep (fun b => (rowV es t).ownBlock = some b) w w')
    (hrow : w'.ownsRow 0 37 6 (rowV es t) r.length (pgCells r)) : LnAt w' F bk bm (fun u => if u = t then r else R u) n es := by
  have hoff : ∀ u v g, u ≠ t → Mp.mget es u = some v → v.ownBlock = some g → ¬ (rowV es t).ownBlock = some g := fun u v g hu hv hg hx => by
    unfold rowV at hx
    cases hv2 : Mp.mget es t with
    | none => rw [hv2] at hx; cases hx
    | some v2 => rw [hv2] at hx; exact hu (h.apart u t v v2 g hv hv2 hg hx)
  refine ⟨k.blk h.box (fun e => (h.rowB e).2.1 rfl), h.map.same (k.block _ h.map.lt (fun e => (h.rowB e).2.2 rfl)), ?_, ?_, h.own, h.apart, h.fk, h.fm, h.ne, fun i hi => Nat.lt_of_lt_of_le (h.lt i hi) k.size⟩
  · intro u v hu
    by_cases e : u = t
    · subst e
      rw [if_pos rfl]
      have hv : rowV es u = v := by unfold rowV; rw [hu]; rfl
      rw [hv] at hrow
      refine ⟨hrow, fun e => (h.rows u v hu).2 ?_⟩
      rw [e] at hl
      exact List.length_eq_zero_iff.1 hl.symm
    · rw [if_neg e]
      exact ⟨ownsRow_keep (h.rows u v hu).1 k (fun g hg => hoff u v g e hu hg), (h.rows u v hu).2⟩
  · intro u hu
    by_cases e : u = t
    · subst e
      rw [if_pos rfl]
      rw [h.miss u hu] at hl
      exact List.length_eq_zero_iff.1 hl
    · rw [if_neg e]
      exact h.miss u hu
def PayP (w : World) (F : Nat → Prop) (bk bm : Nat) (R : ByteArray → List Pg) (n : Nat) (t : ByteArray) (s : Int) (e : Ending) (w' : World) : Prop :=
  ∃ F' es' v, e = .returned (.tuple #[v, .int .i64 (payS (rankOf (R t)) s), .int .i64 0]) ∧ LnAt w' F' bk bm (keepR (fun u => if u = t then (R t).map (subP (payE (rankOf (R t)) s)) else R u) t live) (n - ((R t).length - (((R t).map (subP (payE (rankOf (R t)) s))).filter live).length)) es' ∧
    (∀ k, F' k → F k ∨ w.heap.size ≤ k) ∧ Keep F w w' ∧ w'.ownsRow w.heap.size 35 3 v (payE (rankOf (R t)) s).length (entCells (payE (rankOf (R t)) s))
set_option maxHeartbeats 16000000 in
theorem pay_any {w : World} {F : Nat → Prop} {bk bm n : Nat} {R : ByteArray → List Pg} {es : Mp.Ents} (h : LnAt w F bk bm R n es) (t : ByteArray) (s : Int) (hs : 0 ≤ s ∧ s ≤ 1099511627776) (hn : n ≤ 4096) (hr : (R t).length ≤ n) (h20 : (R t).length ≤ 39) (hne : R t ≠ [])
    (hok : ∀ x ∈ R t, 1 ≤ x.amt ∧ x.amt ≤ 1099511627776) (hnd : ((R t).map Pg.cred).Nodup) :
    Calls Try.prog 14 #[.pointer (some ⟨bk, 0, none⟩), .string t, .int .i64 s] w (PayP w F bk bm R n t s) := by
  obtain ⟨i0, hi, hz, hsz, hby⟩ := info_parts infoEn
  have HI := Lib.hid (And.intro hi (And.intro hz (And.intro hsz hby)))
  clear hi hz hsz hby
  have HH := Lib.hid h
  have hlen : ¬ (R t).length = 0 := fun e => hne (List.length_eq_zero_iff.1 e)
  have HFR := Lib.hid (free_any h t)
  rw [decide_eq_false hlen] at HFR
  have hpm := rankOf_perm (R t)
  have HRK := Lib.hid (fun W (hW : Below w.heap.size w W) => rank_any (h.below hW) t h20)
  have HOK : Hid (∀ x ∈ rankOf (R t), 1 ≤ x.amt ∧ x.amt ≤ 1099511627776) := Lib.hid fun x hx => hok x (hpm.mem_iff.1 hx)
  have HNDP : Hid (((rankOf (R t)).map Pg.cred).Nodup) := Lib.hid ((hpm.map Pg.cred).nodup_iff.2 hnd)
  have HEL : Hid ((rankOf (R t)).length ≤ 39) := Lib.hid (by rw [hpm.length_eq]; exact h20)
  have HGR : Hid (∀ x ∈ R t, 0 ≤ gotC (payE (rankOf (R t)) s) x.cred ∧ gotC (payE (rankOf (R t)) s) x.cred ≤ x.amt) := Lib.hid fun x hx => gotC_range hs.1 (fun y hy => (HOK.out y hy).1) HNDP.out (hpm.mem_iff.2 hx)
  have HNN := Lib.hid (And.intro hn (And.intro hr hok))
  have HPP : Hid (∀ e w', (∃ F' es' v, e = .returned (.tuple #[v, .int .i64 (payS (rankOf (R t)) s), .int .i64 0]) ∧ LnAt w' F' bk bm (keepR (fun u => if u = t then (R t).map (subP (payE (rankOf (R t)) s)) else R u) t live) (n - ((R t).length - (((R t).map (subP (payE (rankOf (R t)) s))).filter live).length)) es' ∧ (∀ k, F' k → F k ∨ w.heap.size ≤ k) ∧ Keep F w w' ∧ w'.ownsRow w.heap.size 35 3 v (payE (rankOf (R t)) s).length (entCells (payE (rankOf (R t)) s))) → PayP w F bk bm R n t s e w') := Lib.hid fun e w' h => h
  generalize rankOf (R t) = E at *
  have tm : ∀ W : World, (Instr.makeMap 63 none).run Try.prog W = .ok (.map (some W.heap.size)) (W.alloc (.map #[] 0)) := fun W => by kernel_rfl
  have t1 : decide (s < 0) = false := decide_eq_false (by omega)
  have t2 : decide (1099511627776 < s) = false := decide_eq_false (by omega)
  have HN0 : Hid (¬ (R t).length = 0) := Lib.hid hlen
  clear h hne hpm hn hr hok hnd hlen
  go_enter Try.func14, Try.ntmps14
  go_wp2_with (first
    | ((with_reducible refine HFR.out.mono ?_); rintro e w1 ⟨rfl, hb1⟩; have HB1 := Lib.hid hb1; clear hb1)
    | fail)
  obtain ⟨bg, hbg⟩ : ∃ b, b = w1.heap.size := ⟨_, rfl⟩
  obtain ⟨w2, hw2⟩ : ∃ x, x = w1.alloc (.map #[] 0) := ⟨_, rfl⟩
  have HMG0 : Hid (Mp.MapAt w2 bg []) := Lib.hid (by rw [hw2, hbg]; exact Mp.MapAt.made w1)
  have HB2 : Hid (Below w.heap.size w w2) := Lib.hid (by rw [hw2]; exact HB1.out.alloc HB1.out.size _)
  have HBG : Hid (w.heap.size ≤ bg ∧ bg < w2.heap.size) := Lib.hid ⟨by rw [hbg]; exact HB1.out.size, HMG0.out.lt⟩
  rw [← hw2, ← hbg]
  clear hw2 hbg tm t1 t2
  go_wp2_with (first
    | ((with_reducible refine (HRK.out _ HB2.out).mono ?_); rintro e w3 ⟨v3, rfl, ho3, hb3⟩; have HO3 := Lib.hid ho3; have HB3 := Lib.hid hb3; obtain ⟨a3, c3, rfl⟩ : ∃ a c, v3 = .slice a E.length c := (by simpa using (own_pgs ho3 rfl).shape); clear ho3 hb3)
    | fail)
  have HS3 := Lib.hid (own_pgs HO3.out rfl)
  have HOF : Hid (Off (fun k => k = bg) (.slice a3 E.length c3)) := Lib.hid (fun b hb e => by have := (HO3.out.lt b hb).1; have := HBG.out; omega)
  have HM3 := Lib.hid (HMG0.out.same (HB3.out.block _ HMG0.out.lt))
  have hel := HEL.out
  have hs0 := hs
  go_loopw [2, 9, 12, 13, 30] (fun sv ents _ _ i wr => ∃ (k : Nat) (gs : Mp.Ents), k ≤ E.length ∧ i = .int .i64 k ∧ sv = .int .i64 (payS (E.take k) s) ∧ wr.ownsRow w3.heap.size 35 3 ents (payE (E.take k) s).length (entCells (payE (E.take k) s)) ∧ Mp.MapAt wr bg gs ∧ GotOf gs (payE (E.take k) s) ∧ (payE (E.take k) s).length ≤ k ∧ Keep (fun k => k = bg) w3 wr) (fun _ _ _ _ i _ => E.length - (intOf i).toNat)
  case atStart => exact ⟨0, [], Nat.zero_le _, rfl, rfl, World.ownsRow_nil _ _ _ _, HM3.out, gotOf_nil, Nat.le_refl _, Keep.refl _ _⟩
  case round =>
    obtain ⟨k, gs, hk, rfl, rfl, hown, hmg, hgo, hle, hkp⟩ := hrel
    have HOWN := Lib.hid hown
    have HMG := Lib.hid hmg
    have HGO := Lib.hid hgo
    have HKP := Lib.hid hkp
    have hsz := hkp.size
    by_cases hlt : k < E.length
    · obtain ⟨b, off, rfl, hb, hp⟩ := pg_at (HS3.out.keep hkp HOF.out) hlt
      obtain ⟨d0, d1, d2, d3, d4, d5⟩ := hp
      have hx := HOK.out E[k] (List.getElem_mem hlt)
      have hsr := payS_range (r := E.take k) hs.1 (fun y hy => (HOK.out y (List.mem_of_mem_take hy)).1)
      have HES := payE_snoc (E.take k) E[k] s
      have HSS := payS_snoc (E.take k) E[k] s
      rw [← List.take_succ_eq_append_getElem hlt] at HES HSS
      have HNO := Lib.hid (pre_cred hlt HNDP.out s)
      have tk : ((k : Nat) : Int) < (E.length : Int) := by omega
      have HXN := Lib.hid (heap_alloc_new wr (.cells E[k].cells 37))
      generalize E[k] = x at *
      generalize payS (E.take k) s = S at *
      generalize payE (E.take k) s = L at *
      obtain ⟨xt, xd, xc, xy, xa, xh⟩ := x
      simp only [Pg.cells] at d0 d1 d2 d3 d4 d5 hx HES HSS HNO HXN
      obtain ⟨m, hm⟩ : ∃ m, m = min xa S := ⟨_, rfl⟩
      have HMI : Hid (Any.imin xa S = m) := Lib.hid (by rw [hm]; unfold Any.imin; split <;> omega)
      rw [← hm] at HES HSS
      have HSS := Lib.hid HSS
      have HOA := Lib.hid (ownsRow_below hown (one_below wr (.cells #[.string xt, .string xd, .string xc, .int .i64 xy, .int .i64 xa, .bool xh] 37)))
      have HKA : Hid (Keep (fun k => k = bg) w3 (wr.alloc (.cells #[.string xt, .string xd, .string xc, .int .i64 xy, .int .i64 xa, .bool xh] 37))) := Lib.hid (hkp.trans (Keep.alloc (fun _ => False) wr _) (fun _ _ h => h.elim))
      have HMA := Lib.hid (hmg.same (Below.heap_alloc wr (.cells #[.string xt, .string xd, .string xc, .int .i64 xy, .int .i64 xa, .bool xh] 37) _ hmg.lt))
      have x2 := cell_blk HXN.out 2
      have x4 := cell_blk HXN.out 4
      clear hb hown hmg hgo hkp
      by_cases hm0 : m = 0
      · subst hm0
        have HES : Hid (payE (E.take (k + 1)) s = L) := Lib.hid (by rw [HES]; exact if_pos rfl)
        clear hm
        go_wp2_with (first
          | ((with_reducible refine Any.wpl_min_is (k := .i64) ?_ HMI.out ?_ ?_ ?_); rfl; rfl; rfl)
          | fail)
        go_roundw
        case rel => exact ⟨k + 1, gs, by omega, by go_num, by rw [HSS.out]; simp, by rw [HES.out]; exact HOA.out, HMA.out, by rw [HES.out]; exact HGO.out, by rw [HES.out]; omega, HKA.out⟩
        case measure => (simp [intOf]) <;> omega
      · have tm : decide (0 < m) = true := decide_eq_true (by omega)
        have HES : Hid (payE (E.take (k + 1)) s = L ++ [(xc, m)]) := Lib.hid (by rw [HES]; exact if_neg hm0)
        have hsm : 0 ≤ S - m ∧ S - m ≤ 1099511627776 := by omega
        have HGP := Lib.hid (gotOf_put HGO.out (c := xc) (m := m) HNO.out)
        have HL : Hid (L.length + 1 ≤ maxLen ∧ (L.length + 1) * 40 ≤ 140737488355328 ∧ w3.heap.size ≤ (wr.alloc (.cells #[.string xt, .string xd, .string xc, .int .i64 xy, .int .i64 xa, .bool xh] 37)).heap.size) := Lib.hid (by rw [size_al]; simp only [maxLen]; omega)
        have HNB : Hid (∀ g, (u9).ownBlock = some g → g ≠ wr.heap.size ∧ g ≠ bg) := Lib.hid (fun g hg => by have h1 := HOWN.out.lt g hg; have h2 := HBG.out; have h3 := HB3.out.size; omega)
        have HBL : Hid (bg < wr.heap.size) := Lib.hid HMG.out.lt
        clear hm hm0
        go_wp2_with (first
          | ((with_reducible refine Any.wpl_min_is (k := .i64) ?_ HMI.out ?_ ?_ ?_); rfl; rfl; rfl)
          | (((with_reducible refine Any.wpl_push ?_ ?_ ?_ Try.underlying30 HI.out.1 HI.out.2.1 HI.out.2.2.1 HI.out.2.2.2 ?_ (by decide) ?_ (ent_one xc m) (HOA.out) HL.out.1 HL.out.2.1 HL.out.2.2 ?_); rfl; rfl; (rw [size_al]; rfl); rfl; rfl; intro v5 w5 hown5 hgrow5 hwho5); have HO5 := Lib.hid hown5; have HG5 := Lib.hid hgrow5; clear hown5 hgrow5 hwho5;
             have x2 := cell_blk ((HG5.out.block wr.heap.size (by rw [size_al]; omega) (fun e => (HNB.out wr.heap.size (by first | exact e | exact e.symm)).1 rfl)).trans HXN.out) 2;
             have HM5 := Lib.hid (HMA.out.same (HG5.out.block bg HMA.out.lt (fun e => (HNB.out bg (by first | exact e | exact e.symm)).2 rfl))))
          | ((with_reducible refine Mp.wpl_update (b := bg) (l := gs) (key := xc) (v := .int .i64 m) ?_ ?_ ?_ ?_ Try.underlying63 Try.underlying9 HM5.out ?_); rfl; rfl; rfl; rfl; intro w6 hm6 hg6 hz6; have HM6 := Lib.hid hm6; have HG6 := Lib.hid hg6; clear hm6 hg6 hz6; go_frame)
          | fail)
        have hK5 : Keep (fun k => k = bg) w3 w5 := HKA.out.trans (Keep.of_grown HG5.out) (fun i hi e => absurd hi (by have := (HOA.out.lt i e).1; omega))
        have HK6 := Lib.hid (hK5.trans (Keep.of_grown HG6.out) (fun i _ e => (Option.some.inj e).symm))
        have HO6 := Lib.hid (ownsRow_keep HO5.out (Keep.of_grown HG6.out) (fun g hg e => by have := (HO5.out.lt g hg).1; have := HBG.out; have := HB3.out.size; have := Option.some.inj e; omega))
        go_roundw
        case rel => exact ⟨k + 1, _, by omega, by go_num, by rw [HSS.out], by
          rw [HES.out, entCells_snoc, List.length_append]
          exact HO6.out, HM6.out, by rw [HES.out]; exact HGP.out, by rw [HES.out, List.length_append]; simp; omega, HK6.out⟩
        case measure => (simp [intOf]) <;> omega
    · rw [List.take_of_length_le (by omega)] at hown hgo hle
      have HOWN := Lib.hid hown
      have HGO := Lib.hid hgo
      have HES : Hid (E.take k = E) := Lib.hid (List.take_of_length_le (by omega))
      have HB7 : Hid (Below w.heap.size w wr) := Lib.hid ((HB2.out.trans (HB3.out.mono HB2.out.size)).trans (hkp.below (Nat.le_trans HB2.out.size HB3.out.size) (fun i hi e => by have := HBG.out.1; omega)))
      have hl7 := HH.out.below HB7.out
      have y0 := cell_blk hl7.box 0
      have HL7 := Lib.hid hl7
      obtain ⟨g, cr, cur, hv, hh, -⟩ := own_pos (HL7.out.row t) (Nat.pos_of_ne_zero HN0.out)
      have HV := Lib.hid hv
      have HGV0 : Hid ((Mp.mget es t).getD (.slice none 0 0) = .slice (some ⟨g, 0, none⟩) (R t).length cr) := Lib.hid hv
      have hrow0 := HL7.out.row t
      rw [hv] at hrow0
      have HROW0 := Lib.hid hrow0
      have HFG : Hid (F g) := Lib.hid (HL7.out.rowB (t := t) (g := g) (by rw [hv]; rfl)).1
      have HMG7 := Lib.hid hmg
      rw [HES.out]
      clear hown hmg hgo hkp hl7 hk hsz hv hh hrow0 HMG HKP hle HES HOK HNDP HRK
      generalize payS E s = Z at *
      generalize payE E s = e at *
      go_wp2_with (first
        | ((with_reducible refine Mp.wpl_val (l := es) (key := t) (v := .slice (some ⟨g, 0, none⟩) (R t).length cr) ?_ ?_ ?_ Try.underlying58 Try.underlying9 (zeroRow _) HL7.out.map HGV0.out ?_); rfl; rfl; rfl)
        | fail)
      clear hlt
      generalize wr = w7 at *
      go_loopw [15, 63] (fun _ i wr => ∃ k : Nat, k ≤ (R t).length ∧ i = .int .i64 k ∧ wr.ownsRow 0 37 6 (.slice (some ⟨g, 0, none⟩) (R t).length cr) (R t).length (pgCells (((R t).take k).map (subP e) ++ (R t).drop k)) ∧ Keep (fun k => (Value.slice (some ⟨g, 0, none⟩) (R t).length cr).ownBlock = some k) w7 wr) (fun _ i _ => (R t).length - (intOf i).toNat)
      case atStart => exact ⟨0, Nat.zero_le _, rfl, by simpa using HROW0.out, Keep.refl _ _⟩
      case round =>
        obtain ⟨k, hk, rfl, hrow, hkp⟩ := hrel
        have HROW := Lib.hid hrow
        have HKP := Lib.hid hkp
        have HNG : Hid (¬ (Value.slice (some ⟨g, 0, none⟩) (R t).length cr).ownBlock = some bg) := Lib.hid (fun e => by
          have h1 := HH.out.lt _ HFG.out
          have h2 := HBG.out.1
          have h3 : g = bg := Option.some.inj e
          omega)
        by_cases hlt : k < (R t).length
        · obtain ⟨h2, he⟩ := half_at hlt (subP e)
          have HOFF : Hid (k * 6 + 4 < (pgCells (((R t).take k).map (subP e) ++ (R t).drop k)).length) := Lib.hid (by rw [pgCells_len]; omega)
          have HCA : Hid (∀ W : World, (∀ b, (Value.slice (some ⟨g, 0, none⟩) (R t).length cr).ownBlock = some b → W.heap[b]? = wr.heap[b]?) → W.cell? ⟨g, k * 6 + 4, none⟩ = some (.int .i64 (R t)[k].amt) ∧ W.cell? ⟨g, k * 6 + 2, none⟩ = some (.string (R t)[k].cred)) := Lib.hid fun W hW =>
            ⟨row_read (Any.ownsRow_same HROW.out hW) h2 4 (by decide) (by rw [he]; rfl), row_read (Any.ownsRow_same HROW.out hW) h2 2 (by decide) (by rw [he]; rfl)⟩
          have HST : Hid ((pgCells (((R t).take k).map (subP e) ++ (R t).drop k)).set (k * 6 + 4) (.int .i64 ((R t)[k].amt - gotC e (R t)[k].cred)) = pgCells (((R t).take (k + 1)).map (subP e) ++ (R t).drop (k + 1))) := Lib.hid (by
            rw [pgCells_set h2, ← half_set hlt (subP e), he]
            rfl)
          have HGV : Hid (Mp.look false (Mp.mget gs (R t)[k].cred) (.int .i64 0) = .int .i64 (gotC e (R t)[k].cred)) := Lib.hid (by rw [look_getD]; exact HGO.out _)
          have hgr := HGR.out (R t)[k] (List.getElem_mem hlt)
          have hxb := (HNN.out.2.2 (R t)[k] (List.getElem_mem hlt)).2
          have HMG := Lib.hid (HMG7.out.same (hkp.block bg HMG7.out.lt HNG.out))
          have HKL := Lib.hid hlt
          have tk : ((k : Nat) : Int) < ((R t).length : Int) := by omega
          generalize (R t)[k].amt = xa at *
          generalize (R t)[k].cred = xc at *
          generalize gotC e xc = G at *
          clear hrow hkp he hlt hk
          go_wp2_with fail
          refine Ord.region_lit (fun
            | 0 => Ord.val (.slice (some ⟨g, 0, none⟩) (R t).length cr)
            | 1 => Ord.val (.int .i64 (k : Int))
            | 2 => Ord.val (.pointer (some ⟨g, k * 6, none⟩))
            | 3 => Ord.val (.pointer (some ⟨g, k * 6 + 4, none⟩))
            | 4 => Ord.val (.int .i64 xa)
            | 5 => Ord.val (.map (some bg))
            | 6 => Ord.val (.slice (some ⟨g, 0, none⟩) (R t).length cr)
            | 7 => Ord.val (.int .i64 (k : Int))
            | 8 => Ord.val (.pointer (some ⟨g, k * 6, none⟩))
            | 9 => Ord.val (.pointer (some ⟨g, k * 6 + 2, none⟩))
            | 10 => Ord.val (.string xc)
            | 11 => Ord.val (.int .i64 G)
            | 12 => Ord.val (.int .i64 (xa - G))
            | 13 => Ord.val (.pointer (some ⟨g, k * 6, none⟩))
            | 14 => Ord.val (.pointer (some ⟨g, k * 6 + 4, none⟩))
            | 15 => Ord.setrow 37 6 (R t).length ((pgCells (((R t).take k).map (subP e) ++ (R t).drop k)).set (k * 6 + 4) (.int .i64 (xa - G))) (.slice (some ⟨g, 0, none⟩) (R t).length cr)
            | _ => Ord.idle) (fun k => (Value.slice (some ⟨g, 0, none⟩) (R t).length cr).ownBlock = some k) (by kernel_rfl) (by kernel_rfl) (by kernel_rfl) ?_ ?_ ?_ ?_
          · intro i _
            match i with
            | 0 => exact Ord.lasts_val _
            | 1 => exact Ord.lasts_val _
            | 2 => exact Ord.lasts_val _
            | 3 => exact Ord.lasts_val _
            | 4 => exact Ord.lasts_val _
            | 5 => exact Ord.lasts_val _
            | 6 => exact Ord.lasts_val _
            | 7 => exact Ord.lasts_val _
            | 8 => exact Ord.lasts_val _
            | 9 => exact Ord.lasts_val _
            | 10 => exact Ord.lasts_val _
            | 11 => exact Ord.lasts_val _
            | 12 => exact Ord.lasts_val _
            | 13 => exact Ord.lasts_val _
            | 14 => exact Ord.lasts_val _
            | 15 => exact Ord.lasts_setrow _ _ _ _ _
            | n + 16 => exact Ord.lasts_idle
          · refine ⟨fun k b _ hh => ?_, fun k b _ hh => ?_, fun k k' b _ _ hne h1 h2 => ?_⟩
            · match k, hh with
              | 0, hh => exact hh.elim
              | 1, hh => exact hh.elim
              | 2, hh => exact hh.elim
              | 3, hh => exact hh.elim
              | 4, hh => exact hh.elim
              | 5, hh => exact hh.elim
              | 6, hh => exact hh.elim
              | 7, hh => exact hh.elim
              | 8, hh => exact hh.elim
              | 9, hh => exact hh.elim
              | 10, hh => exact hh.elim
              | 11, hh => exact hh.elim
              | 12, hh => exact hh.elim
              | 13, hh => exact hh.elim
              | 14, hh => exact hh.elim
              | 15, hh => exact hh
              | m + 16, hh => exact hh.elim
            · match k, hh with
              | 0, hh => exact hh.elim
              | 1, hh => exact hh.elim
              | 2, hh => exact hh.elim
              | 3, hh => exact hh.elim
              | 4, hh => exact hh.elim
              | 5, hh => exact hh.elim
              | 6, hh => exact hh.elim
              | 7, hh => exact hh.elim
              | 8, hh => exact hh.elim
              | 9, hh => exact hh.elim
              | 10, hh => exact hh.elim
              | 11, hh => exact hh.elim
              | 12, hh => exact hh.elim
              | 13, hh => exact hh.elim
              | 14, hh => exact hh.elim
              | 15, hh => exact (HROW.out.lt b hh).2
              | m + 16, hh => exact hh.elim
            · have a : (k = 15 ∧ (fun k => (Value.slice (some ⟨g, 0, none⟩) (R t).length cr).ownBlock = some k) b) := by
                match k, h1 with
                | 0, hh => exact hh.elim
                | 1, hh => exact hh.elim
                | 2, hh => exact hh.elim
                | 3, hh => exact hh.elim
                | 4, hh => exact hh.elim
                | 5, hh => exact hh.elim
                | 6, hh => exact hh.elim
                | 7, hh => exact hh.elim
                | 8, hh => exact hh.elim
                | 9, hh => exact hh.elim
                | 10, hh => exact hh.elim
                | 11, hh => exact hh.elim
                | 12, hh => exact hh.elim
                | 13, hh => exact hh.elim
                | 14, hh => exact hh.elim
                | 15, hh => exact ⟨rfl, hh⟩
                | m + 16, hh => exact hh.elim
              have a' : (k' = 15 ∧ (fun k => (Value.slice (some ⟨g, 0, none⟩) (R t).length cr).ownBlock = some k) b) := by
                match k', h2 with
                | 0, hh => exact hh.elim
                | 1, hh => exact hh.elim
                | 2, hh => exact hh.elim
                | 3, hh => exact hh.elim
                | 4, hh => exact hh.elim
                | 5, hh => exact hh.elim
                | 6, hh => exact hh.elim
                | 7, hh => exact hh.elim
                | 8, hh => exact hh.elim
                | 9, hh => exact hh.elim
                | 10, hh => exact hh.elim
                | 11, hh => exact hh.elim
                | 12, hh => exact hh.elim
                | 13, hh => exact hh.elim
                | 14, hh => exact hh.elim
                | 15, hh => exact ⟨rfl, hh⟩
                | m + 16, hh => exact hh.elim
              rcases a with ⟨rfl, a⟩ <;> rcases a' with ⟨rfl, a'⟩
              all_goals first | exact absurd rfl hne | (exact hne rfl)
          · refine ⟨?_, ?_, ?_, ?_, ?_, ?_, ?_, ?_, ?_, ?_, ?_, ?_, ?_, ?_, ?_, ?_, trivial⟩
            · refine Ord.owes_plain rfl fun ρ Os wo hs' hb hc' => ?_
              have h14 : ρ (.tmp 14) = .slice (some ⟨g, 0, none⟩) (R t).length cr := hs'.old' 14 (by kernel_rfl)
              exact Any.ok_move (Ord.post_val rfl h14)
            · refine Ord.owes_plain rfl fun ρ Os wo hs' hb hc' => ?_
              have h15 : ρ (.tmp 15) = .int .i64 (k : Int) := hs'.old' 15 (by kernel_rfl)
              exact Any.ok_move (Ord.post_val rfl h15)
            · refine Ord.owes_plain rfl fun ρ Os wo hs' hb hc' => ?_
              have h66 : ρ (.tmp 66) = .slice (some ⟨g, 0, none⟩) (R t).length cr := hs'.val' 66 0 (by kernel_rfl) rfl
              have h67 : ρ (.tmp 67) = .int .i64 (k : Int) := hs'.val' 67 1 (by kernel_rfl) rfl
              go_simp
              exact Ord.post_val rfl rfl
            · refine Ord.owes_plain rfl fun ρ Os wo hs' hb hc' => ?_
              have h68 : ρ (.tmp 68) = .pointer (some ⟨g, k * 6, none⟩) := hs'.val' 68 2 (by kernel_rfl) rfl
              go_simp
              exact Ord.post_val rfl rfl
            · refine Ord.owes_plain rfl fun ρ Os wo hs' hb hc' => ?_
              have h69 : ρ (.tmp 69) = .pointer (some ⟨g, k * 6 + 4, none⟩) := hs'.val' 69 3 (by kernel_rfl) rfl
              have c0 := (HCA.out wo (fun b hb' => hs'.early' 15 (by kernel_rfl) b hb')).1
              go_simp
              exact Ord.post_val rfl rfl
            · refine Ord.owes_plain rfl fun ρ Os wo hs' hb hc' => ?_
              have h10 : ρ (.tmp 10) = .map (some bg) := hs'.old' 10 (by kernel_rfl)
              exact Any.ok_move (Ord.post_val rfl h10)
            · refine Ord.owes_plain rfl fun ρ Os wo hs' hb hc' => ?_
              have h14 : ρ (.tmp 14) = .slice (some ⟨g, 0, none⟩) (R t).length cr := hs'.old' 14 (by kernel_rfl)
              exact Any.ok_move (Ord.post_val rfl h14)
            · refine Ord.owes_plain rfl fun ρ Os wo hs' hb hc' => ?_
              have h15 : ρ (.tmp 15) = .int .i64 (k : Int) := hs'.old' 15 (by kernel_rfl)
              exact Any.ok_move (Ord.post_val rfl h15)
            · refine Ord.owes_plain rfl fun ρ Os wo hs' hb hc' => ?_
              have h72 : ρ (.tmp 72) = .slice (some ⟨g, 0, none⟩) (R t).length cr := hs'.val' 72 6 (by kernel_rfl) rfl
              have h73 : ρ (.tmp 73) = .int .i64 (k : Int) := hs'.val' 73 7 (by kernel_rfl) rfl
              go_simp
              exact Ord.post_val rfl rfl
            · refine Ord.owes_plain rfl fun ρ Os wo hs' hb hc' => ?_
              have h74 : ρ (.tmp 74) = .pointer (some ⟨g, k * 6, none⟩) := hs'.val' 74 8 (by kernel_rfl) rfl
              go_simp
              exact Ord.post_val rfl rfl
            · refine Ord.owes_plain rfl fun ρ Os wo hs' hb hc' => ?_
              have h75 : ρ (.tmp 75) = .pointer (some ⟨g, k * 6 + 2, none⟩) := hs'.val' 75 9 (by kernel_rfl) rfl
              have c0 := (HCA.out wo (fun b hb' => hs'.early' 15 (by kernel_rfl) b hb')).2
              go_simp
              exact Ord.post_val rfl rfl
            · refine Ord.owes_plain rfl fun ρ Os wo hs' hb hc' => ?_
              have h71 : ρ (.tmp 71) = .map (some bg) := hs'.val' 71 5 (by kernel_rfl) rfl
              have h76 : ρ (.tmp 76) = .string xc := hs'.val' 76 10 (by kernel_rfl) rfl
              have hm : Mp.MapAt wo bg gs := HMG.out.same (hb.block bg HMG.out.lt HNG.out)
              exact Mp.ok_lookup (l := gs) (key := xc) Try.underlying63 Try.underlying9 (zeroI64 _) h71 h76 hm (Ord.post_val rfl HGV.out)
            · refine Ord.owes_plain rfl fun ρ Os wo hs' hb hc' => ?_
              have h70 : ρ (.tmp 70) = .int .i64 xa := hs'.val' 70 4 (by kernel_rfl) rfl
              have h77 : ρ (.tmp 77) = .int .i64 G := hs'.val' 77 11 (by kernel_rfl) rfl
              have e : IntKind.i64.wrap (xa - G) = xa - G := IntWalk.i64_in _ (by omega)
              go_simp
              exact Ord.post_val rfl rfl
            · refine Ord.owes_plain rfl fun ρ Os wo hs' hb hc' => ?_
              have h66 : ρ (.tmp 66) = .slice (some ⟨g, 0, none⟩) (R t).length cr := hs'.val' 66 0 (by kernel_rfl) rfl
              have h67 : ρ (.tmp 67) = .int .i64 (k : Int) := hs'.val' 67 1 (by kernel_rfl) rfl
              go_simp
              exact Ord.post_val rfl rfl
            · refine Ord.owes_plain rfl fun ρ Os wo hs' hb hc' => ?_
              have h79 : ρ (.tmp 79) = .pointer (some ⟨g, k * 6, none⟩) := hs'.val' 79 13 (by kernel_rfl) rfl
              go_simp
              exact Ord.post_val rfl rfl
            · refine Ord.owes_plain rfl fun ρ Os wo hs' hb hc' => ?_
              have h80 : ρ (.tmp 80) = .pointer (some ⟨g, k * 6 + 4, none⟩) := hs'.val' 80 14 (by kernel_rfl) rfl
              have h78 : ρ (.tmp 78) = .int .i64 (xa - G) := hs'.val' 78 12 (by kernel_rfl) rfl
              exact Ord.ok_setrow h80 h78 HROW.out hs'.here HOFF.out (fun _ => rfl) rfl
          · intro vals Os ρs wS hk hkn hln hap hbd
            have h15 := hkn 15 (by kernel_rfl)
            clear hkn hln hap hbd
            have HRS := Lib.hid h15.1
            have HKP := Lib.hid (HKP.out.trans hk (fun _ _ h => h))
            clear hk h15
            go_wp2_with fail
            go_roundw
            case rel => exact ⟨k + 1, by have := HKL.out; omega, by go_num, by have := HRS.out; rw [HST.out] at this; exact this, HKP.out⟩
            case measure => have := HKL.out; (simp [intOf]) <;> omega
        · have hfull : ((R t).take k).map (subP e) ++ (R t).drop k = (R t).map (subP e) := by rw [List.take_of_length_le (by omega), List.drop_of_length_le (by omega), List.append_nil]
          rw [hfull] at hrow
          have hk7 : Keep (fun b => (rowV es t).ownBlock = some b) w7 wr := by rw [HV.out]; exact hkp
          have hl8 := HL7.out.edit (t := t) (r := (R t).map (subP e)) (by simp) hk7 (by rw [HV.out, List.length_map]; exact hrow)
          have HKQ : Hid (Calls Try.prog 28 #[.pointer (some ⟨bk, 0, none⟩), .string t, .func (.func 29) #[] #[]] wr (LnP wr F bk bm (keepR (fun u => if u = t then (R t).map (subP e) else R u) t live) (n - ((R t).length - (((R t).map (subP e)).filter live).length)) (.tuple #[]))) := Lib.hid (by
            have h1 := keep_any hl8 t live 29 #[] HNN.out.1 (by rw [if_pos rfl, List.length_map]; exact HNN.out.2.1) (enters_of Try.func29 (by kernel_rfl) rfl) (fun W x _ => c29_any x W)
            simp only [if_true, List.length_map] at h1
            exact h1)
          have HK78 := Lib.hid (hkp.mono (G := F) fun i _ hi => by
            have h3 : g = i := Option.some.inj hi
            exact h3 ▸ HFG.out)
          have HO8 := Lib.hid (ownsRow_keep HOWN.out hkp (fun b hb hx => by
            have h1 := (HOWN.out.lt b hb).1
            have h2 := HH.out.lt _ HFG.out
            have h3 : g = b := Option.some.inj hx
            have h4 := HB2.out.size
            have h5 := HB3.out.size
            omega))
          clear hrow hkp hfull hk7 hl8 hk
          go_wp2_with (first
            | ((with_reducible refine HKQ.out.mono ?_); rintro e9 w9 ⟨F', es', rfl, hl9, hf9, hk9⟩; have H9 := Lib.hid (And.intro hl9 (And.intro hf9 hk9)); clear hl9 hf9 hk9)
            | fail)
          go_ret3
          refine HPP.out _ _ ⟨F', es', _, rfl, H9.out.1, fun k hk => (H9.out.2.1 k hk).imp id (fun h => Nat.le_trans (Nat.le_trans HB7.out.size HK78.out.size) h), ((Keep.of_below HB7.out).trans HK78.out (fun _ _ h => h)).trans H9.out.2.2 (fun _ _ h => h), ?_⟩
          exact ownsRow_base (ownsRow_keep HO8.out H9.out.2.2 (fun b hb hx => by
            have h1 := (HO8.out.lt b hb).1
            have h2 := HH.out.lt _ hx
            have h4 := HB2.out.size
            have h5 := HB3.out.size
            omega)) (Nat.le_trans HB2.out.size HB3.out.size)
end Go.Proofs.Ytnlfhncbnfmccaa.Sc
