/- Liens.keep: the pledges of a thing of which something holds; Release. -/
import Derived.Test.YtnlfhncbnfmccaaPledge26
import Derived.Test.YtnlfhncbnfmccaaSetC
namespace Go.Proofs.Ytnlfhncbnfmccaa.Sc
open Go Go.RowKit Go.ChangeShapes Go.WideShapes Go.ChangeAt
set_option maxRecDepth 100000

def keepR (R : ByteArray → List Pg) (t : ByteArray) (f : Pg → Bool) : ByteArray → List Pg := fun u => if u = t then (R t).filter f else R u
theorem push_below {w wr w1 : World} {e : TypeId} {sz n : Nat} {v : Value} {xs : List Value} (hbel : Below w.heap.size w wr) (hown : wr.ownsRow w.heap.size e sz v n xs) (hg : wr.grownBy w1 v.ownBlock) : Below w.heap.size w w1 :=
  hbel.grown hg hbel.size (fun k hk => (hown.lt k hk).1)
theorem filter_snoc {l : List Pg} {k : Nat} (h : k < l.length) (f : Pg → Bool) : (l.take (k + 1)).filter f = if f l[k] = true then (l.take k).filter f ++ [l[k]] else (l.take k).filter f := by
  rw [List.take_succ_eq_append_getElem h, List.filter_append]
  by_cases hf : f l[k] = true
  · rw [if_pos hf]; simp [hf]
  · rw [if_neg hf]; simp [hf]
theorem kept_del {w wr wS wT : World} {F : Nat → Prop} {bk bm n n' : Nat} {R R' : ByteArray → List Pg} {es : Mp.Ents} {t : ByteArray} {c : Int} (h : LnAt w F bk bm R n es) (hb : Below w.heap.size w wr) (hk : Keep (fun k => k = bk) wr wS) (hbx : wS.heap[bk]? = some (.cells #[.map (some bm), .int .i64 c] 60 (0, 0)))
    (hm : Mp.MapAt wT bm (Mp.mdel es t)) (hg : wS.grownBy wT (some bm)) (hR : R' = fun u => if u = t then [] else R u) (hn : (n' : Int) = c) : LnP w F bk bm R' n' (.tuple #[]) (.returned (.tuple #[])) wT := by
  subst hR hn
  have k1 : Keep (fun b => b = bk ∨ b = bm) wr wT := (hk.mono fun i _ hi => .inl hi).trans (Keep.of_grown hg) fun i _ hi => .inr (Option.some.inj hi).symm
  have k2 : Keep (fun b => b = bk ∨ b = bm) w wT := (Keep.of_below hb).trans k1 fun _ _ h => h
  exact ⟨F, _, rfl, h.del k2 ((hg.block bk (lt_blk hbx) (fun e => h.ne (by first | exact (Option.some.inj e) | exact (Option.some.inj e).symm))).trans hbx) hm, fun k hk => .inl hk, k2.mono fun i _ hi => hi.elim (fun e => e ▸ h.fk) (fun e => e ▸ h.fm)⟩
theorem kept_set {w wr wS wT : World} {F : Nat → Prop} {bk bm n n' : Nat} {R R' : ByteArray → List Pg} {es : Mp.Ents} {t : ByteArray} {c : Int} {r : List Pg} {v : Value} (h : LnAt w F bk bm R n es) (hr : r ≠ []) (hb : Below w.heap.size w wr) (hk : Keep (fun k => k = bk) wr wS) (hbx : wS.heap[bk]? = some (.cells #[.map (some bm), .int .i64 c] 60 (0, 0)))
    (ho : wS.ownsRow w.heap.size 37 6 v r.length (pgCells r)) (hm : Mp.MapAt wT bm (Mp.mput es t v)) (hg : wS.grownBy wT (some bm)) (hR : R' = fun u => if u = t then r else R u) (hn : (n' : Int) = c) : LnP w F bk bm R' n' (.tuple #[]) (.returned (.tuple #[])) wT := by
  subst hR hn
  have k1 : Keep (fun b => b = bk ∨ b = bm ∨ (rowV es t).ownBlock = some b) wr wT := (hk.mono fun i _ hi => .inl hi).trans (Keep.of_grown hg) fun i _ hi => .inr (.inl (Option.some.inj hi).symm)
  have k2 : Keep (fun b => b = bk ∨ b = bm ∨ (rowV es t).ownBlock = some b) w wT := (Keep.of_below hb).trans k1 fun _ _ h => h
  have hbm := h.lt _ h.fm
  refine ⟨_, _, rfl, h.set hr k2 ((hg.block bk (lt_blk hbx) (fun e => h.ne (by first | exact (Option.some.inj e) | exact (Option.some.inj e).symm))).trans hbx) hm (ownsRow_base (ownsRow_keep ho (Keep.of_grown hg) (fun g hg' e => by have := (ho.lt g hg').1; have := Option.some.inj e; omega)) (Nat.zero_le _)) (fun g hg' => .inr (ho.lt g hg').1), ?_, ?_⟩
  · rintro k (hk' | hk')
    · exact .inl hk'
    · exact .inr hk'.1
  · refine k2.mono fun i _ hi => ?_
    rcases hi with rfl | rfl | hi
    · exact h.fk
    · exact h.fm
    · exact (h.rowB hi).1
set_option maxHeartbeats 8000000 in
theorem keep_any {w : World} {F : Nat → Prop} {bk bm n : Nat} {R : ByteArray → List Pg} {es : Mp.Ents} (h : LnAt w F bk bm R n es) (t : ByteArray) (f : Pg → Bool) (g : Nat) (cb : Array Value) (hn : n ≤ 4096) (hr : (R t).length ≤ n)
    (eg : ∀ args w, (callFunc g args).run Try.prog w = .ok (.enter g args) w) (hcl : ∀ W (x : Pg), Below w.heap.size w W → Calls Try.prog g (#[.agg x.cells] ++ cb) W (RetB W (f x))) :
    Calls Try.prog 28 #[.pointer (some ⟨bk, 0, none⟩), .string t, .func (.func g) #[] cb] w (LnP w F bk bm (keepR R t f) (n - ((R t).length - ((R t).filter f).length)) (.tuple #[])) := by
  obtain ⟨i0, hi, hz, hsz, hby⟩ := info_parts infoPg
  have HI := Lib.hid (And.intro hi (And.intro hz (And.intro hsz hby)))
  clear hi hz hsz hby
  have HH := Lib.hid h
  have CK := Lib.hid (fun W (hW : Below w.heap.size w W) => And.intro (cell_blk ((h.below hW).box) 0) (cell_blk ((h.below hW).box) 1))
  have HM := Lib.hid (fun W (hW : Below w.heap.size w W) => (h.below hW).map)
  have HS := Lib.hid (own_pgs (h.row t) rfl)
  have HCL := Lib.hid hcl
  have HNN := Lib.hid (And.intro hn hr)
  have HGV : Hid ((Mp.mget es t).getD (.slice none 0 0) = rowV es t) := Lib.hid rfl
  obtain ⟨ar, cr, hv⟩ : ∃ a c, rowV es t = .slice a (R t).length c := by simpa using HS.out.shape
  have HV := Lib.hid hv
  rw [hv] at HS HGV
  have hrl : (R t).length ≤ 4096 := by omega
  obtain ⟨y0, y1⟩ := CK.out w (Below.refl _ _)
  clear h hcl hv
  go_enter Try.func28, Try.ntmps28
  go_wp2_with (first
    | ((with_reducible refine Mp.wpl_val (l := es) (key := t) (v := .slice ar (R t).length cr) ?_ ?_ ?_ Try.underlying58 Try.underlying9 (zeroRow _) (HM.out _ (Below.refl _ _)) HGV.out ?_); rfl; rfl; rfl)
    | fail)
  clear y0 y1
  go_loopw [6, 8, 16] (fun o _ i wr => ∃ k : Nat, k ≤ (R t).length ∧ i = .int .i64 k ∧ wr.ownsRow w.heap.size 37 6 o (((R t).take k).filter f).length (pgCells (((R t).take k).filter f)) ∧ Below w.heap.size w wr) (fun _ _ i _ => (R t).length - (intOf i).toNat)
  case atStart => exact ⟨0, Nat.zero_le _, rfl, World.ownsRow_nil _ _ _ _, Below.refl _ _⟩
  case round =>
    obtain ⟨k, hk, rfl, hown, hbel⟩ := hrel
    have HOWN := Lib.hid hown
    have HBEL := Lib.hid hbel
    by_cases hlt : k < (R t).length
    · obtain ⟨b, off, rfl, hb, hp⟩ := pg_at HS.out hlt
      obtain ⟨d0, d1, d2, d3, d4, d5⟩ := hp.below hb hbel
      have HFS := Lib.hid (filter_snoc hlt f)
      have HLE : Hid ((((R t).take k).filter f).length ≤ 4096) := Lib.hid (by
        have h1 := List.length_filter_le f ((R t).take k)
        have h2 := List.length_take_le k (R t)
        omega)
      have tk : ((k : Nat) : Int) < ((R t).length : Int) := by omega
      generalize ((R t).take k).filter f = D at *
      generalize (R t)[k] = x at *
      have HBA : Hid (Below w.heap.size w (wr.alloc (.cells x.cells 37))) := Lib.hid (hbel.alloc hbel.size _)
      have HC := Lib.hid (HCL.out _ x HBA.out)
      have HXN := Lib.hid (heap_alloc_new wr (.cells x.cells 37))
      have HOA := Lib.hid (ownsRow_below hown (one_below wr (.cells x.cells 37)))
      have HPO := Lib.hid (pg_one x)
      have HPB := Lib.hid (fun (W : World) (b : Nat) (h : W.heap[b]? = some (.cells x.cells 37 (0, 0))) => pgBox_of h)
      generalize f x = r at *
      obtain ⟨xt, xd, xc, xy, xa, xh⟩ := x
      simp only [Pg.cells, PgBox] at d0 d1 d2 d3 d4 d5 HBA HC HXN HOA HPO HPB
      clear hb hp hbel hown
      cases r
      · go_wp2_with (first
          | (go_at_fn g; refine HC.out.mono ?_; rintro e w2 ⟨rfl, hb2⟩; have HB2 := Lib.hid (HBA.out.trans (hb2.mono HBA.out.size)); have HO2 := Lib.hid (ownsRow_below HOA.out hb2); clear hb2)
          | fail)
        go_roundw
        case rel => exact ⟨k + 1, by omega, by go_num, by have := HO2.out; rw [HFS.out]; simpa using this, HB2.out⟩
        case measure => (simp [intOf]) <;> omega
      · go_wp2_with (first
          | (go_at_fn g; refine HC.out.mono ?_; rintro e w2 ⟨rfl, hb2⟩; have HB2 := Lib.hid (HBA.out.trans (hb2.mono HBA.out.size)); have HO2 := Lib.hid (ownsRow_below HOA.out hb2); obtain ⟨x0, x1, x2, x3, x4, x5⟩ := HPB.out w2 _ (blk hb2 (lt_blk HXN.out) HXN.out); have HL : Hid (D.length + 1 ≤ maxLen ∧ (D.length + 1) * 72 ≤ 140737488355328 ∧ w.heap.size ≤ w2.heap.size) := Lib.hid (by have := HLE.out; have := HB2.out.size; simp only [maxLen]; omega); clear hb2)
          | (((with_reducible refine Any.wpl_push ?_ ?_ ?_ Try.underlying26 HI.out.1 HI.out.2.1 HI.out.2.2.1 HI.out.2.2.2 ?_ (by decide) ?_ (HPO.out) (HO2.out) HL.out.1 HL.out.2.1 HL.out.2.2 ?_); rfl; rfl; rfl; rfl; rfl; intro v3 w3 hown3 hgrow3 hwho3); have HO3 := Lib.hid hown3; have HB3 := Lib.hid (push_below HB2.out HO2.out hgrow3); clear hown3 hgrow3 hwho3)
          | fail)
        go_roundw
        case rel => exact ⟨k + 1, by omega, by go_num, by
          have := HO3.out
          rw [HFS.out]
          simpa [pgCells, Pg.row, Pg.cells] using this, HB3.out⟩
        case measure => (simp [intOf]) <;> omega
    · rw [List.take_of_length_le (by omega)] at hown
      have HO := Lib.hid hown
      obtain ⟨ak, ck, rfl⟩ : ∃ a c, u6 = .slice a ((R t).filter f).length c := by simpa using (own_pgs HO.out rfl).shape
      have HDL := List.length_filter_le f (R t)
      have HEQ : Hid (keepR R t f = fun u => if u = t then (R t).filter f else R u) := Lib.hid rfl
      generalize (R t).filter f = D at *
      have HN2 : Hid (((n - ((R t).length - D.length) : Nat) : Int) = (n : Int) - (((R t).length : Int) - (D.length : Int))) := Lib.hid (by have := HNN.out; omega)
      clear HOWN hown hbel hk HS HCL
      obtain ⟨y0, y1⟩ := CK.out wr HBEL.out
      have hn1 : (n : Int) ≤ 4096 := by have := HNN.out.1; omega
      have hn2 : ((R t).length : Int) ≤ (n : Int) := by have := HNN.out.2; omega
      have hn3 : (D.length : Int) ≤ ((R t).length : Int) := by omega
      clear y0 y1
      have HBX : Hid (wr.heap[bk]? = some (.cells #[.map (some bm), .int .i64 (n : Int)] 60 (0, 0))) := Lib.hid (HH.out.below HBEL.out).box
      have HMW := Lib.hid (HM.out wr HBEL.out)
      have HNE : Hid (¬ bm = bk) := Lib.hid HH.out.ne
      have HLK : Hid (bk < w.heap.size) := Lib.hid (HH.out.lt _ HH.out.fk)
      go_wp2_with fail
      refine Ord.region_lit (fun
        | 0 => Ord.val (.pointer (some ⟨bk, 0, none⟩))
        | 1 => Ord.val (.pointer (some ⟨bk, 0, none⟩))
        | 2 => Ord.val (.pointer (some ⟨bk, 1, none⟩))
        | 3 => Ord.val (.int .i64 (n : Int))
        | 4 => Ord.val (.pointer (some ⟨bk, 0, none⟩))
        | 5 => Ord.val (.pointer (some ⟨bk, 0, none⟩))
        | 6 => Ord.val (.pointer (some ⟨bk, 0, none⟩))
        | 7 => Ord.val (.map (some bm))
        | 8 => Ord.val (.string t)
        | 9 => Ord.val (.slice ar (R t).length cr)
        | 10 => Ord.val (.int .i64 ((R t).length : Int))
        | 11 => Ord.val (.slice ak D.length ck)
        | 12 => Ord.val (.int .i64 (D.length : Int))
        | 13 => Ord.val (.int .i64 (((R t).length : Int) - (D.length : Int)))
        | 14 => Ord.val (.int .i64 ((n : Int) - (((R t).length : Int) - (D.length : Int))))
        | 15 => Ord.val (.pointer (some ⟨bk, 0, none⟩))
        | 16 => Ord.val (.pointer (some ⟨bk, 1, none⟩))
        | 17 => Ord.setc bk #[.map (some bm), .int .i64 ((n : Int) - (((R t).length : Int) - (D.length : Int)))] 60
        | _ => Ord.idle) (fun k => k = bk) (by kernel_rfl) (by kernel_rfl) (by kernel_rfl) ?_ ?_ ?_ ?_
      · intro i _
        match i with
        | 0 => exact Ord.lasts_val _
        | 1 => exact Ord.lasts_val _
        | 2 => exact Ord.lasts_val _
        | 3 => exact Ord.lasts_val _
        | 4 => exact Ord.lasts_val _
        | 5 => exact Ord.lasts_val _
        | 6 => exact Ord.lasts_val _
        | 7 => exact Ord.lasts_val _
        | 8 => exact Ord.lasts_val _
        | 9 => exact Ord.lasts_val _
        | 10 => exact Ord.lasts_val _
        | 11 => exact Ord.lasts_val _
        | 12 => exact Ord.lasts_val _
        | 13 => exact Ord.lasts_val _
        | 14 => exact Ord.lasts_val _
        | 15 => exact Ord.lasts_val _
        | 16 => exact Ord.lasts_val _
        | 17 => exact Ord.lasts_setc _ _ _
        | n + 18 => exact Ord.lasts_idle
      · refine ⟨fun k b _ hh => ?_, fun k b _ hh => ?_, fun k k' b _ _ hne h1 h2 => ?_⟩
        · match k, hh with
          | 0, hh => exact hh.elim
          | 1, hh => exact hh.elim
          | 2, hh => exact hh.elim
          | 3, hh => exact hh.elim
          | 4, hh => exact hh.elim
          | 5, hh => exact hh.elim
          | 6, hh => exact hh.elim
          | 7, hh => exact hh.elim
          | 8, hh => exact hh.elim
          | 9, hh => exact hh.elim
          | 10, hh => exact hh.elim
          | 11, hh => exact hh.elim
          | 12, hh => exact hh.elim
          | 13, hh => exact hh.elim
          | 14, hh => exact hh.elim
          | 15, hh => exact hh.elim
          | 16, hh => exact hh.elim
          | 17, hh => exact hh
          | m + 18, hh => exact hh.elim
        · match k, hh with
          | 0, hh => exact hh.elim
          | 1, hh => exact hh.elim
          | 2, hh => exact hh.elim
          | 3, hh => exact hh.elim
          | 4, hh => exact hh.elim
          | 5, hh => exact hh.elim
          | 6, hh => exact hh.elim
          | 7, hh => exact hh.elim
          | 8, hh => exact hh.elim
          | 9, hh => exact hh.elim
          | 10, hh => exact hh.elim
          | 11, hh => exact hh.elim
          | 12, hh => exact hh.elim
          | 13, hh => exact hh.elim
          | 14, hh => exact hh.elim
          | 15, hh => exact hh.elim
          | 16, hh => exact hh.elim
          | 17, hh => exact hh ▸ lt_blk HBX.out
          | m + 18, hh => exact hh.elim
        · have a : (k = 17 ∧ (fun k => k = bk) b) := by
            match k, h1 with
            | 0, hh => exact hh.elim
            | 1, hh => exact hh.elim
            | 2, hh => exact hh.elim
            | 3, hh => exact hh.elim
            | 4, hh => exact hh.elim
            | 5, hh => exact hh.elim
            | 6, hh => exact hh.elim
            | 7, hh => exact hh.elim
            | 8, hh => exact hh.elim
            | 9, hh => exact hh.elim
            | 10, hh => exact hh.elim
            | 11, hh => exact hh.elim
            | 12, hh => exact hh.elim
            | 13, hh => exact hh.elim
            | 14, hh => exact hh.elim
            | 15, hh => exact hh.elim
            | 16, hh => exact hh.elim
            | 17, hh => exact ⟨rfl, hh⟩
            | m + 18, hh => exact hh.elim
          have a' : (k' = 17 ∧ (fun k => k = bk) b) := by
            match k', h2 with
            | 0, hh => exact hh.elim
            | 1, hh => exact hh.elim
            | 2, hh => exact hh.elim
            | 3, hh => exact hh.elim
            | 4, hh => exact hh.elim
            | 5, hh => exact hh.elim
            | 6, hh => exact hh.elim
            | 7, hh => exact hh.elim
            | 8, hh => exact hh.elim
            | 9, hh => exact hh.elim
            | 10, hh => exact hh.elim
            | 11, hh => exact hh.elim
            | 12, hh => exact hh.elim
            | 13, hh => exact hh.elim
            | 14, hh => exact hh.elim
            | 15, hh => exact hh.elim
            | 16, hh => exact hh.elim
            | 17, hh => exact ⟨rfl, hh⟩
            | m + 18, hh => exact hh.elim
          rcases a with ⟨rfl, a⟩ <;> rcases a' with ⟨rfl, a'⟩
          all_goals first | exact absurd rfl hne | (exact hne rfl)
      · refine ⟨?_, ?_, ?_, ?_, ?_, ?_, ?_, ?_, ?_, ?_, ?_, ?_, ?_, ?_, ?_, ?_, ?_, ?_, trivial⟩
        · refine Ord.owes_plain rfl fun ρ Os wo hs' hb hc' => ?_
          have h0 : ρ (.tmp 0) = .pointer (some ⟨bk, 0, none⟩) := hs'.old' 0 (by kernel_rfl)
          exact Any.ok_move (Ord.post_val rfl h0)
        · refine Ord.owes_plain rfl fun ρ Os wo hs' hb hc' => ?_
          have h28 : ρ (.tmp 28) = .pointer (some ⟨bk, 0, none⟩) := hs'.val' 28 0 (by kernel_rfl) rfl
          go_simp
          exact Ord.post_val rfl rfl
        · refine Ord.owes_plain rfl fun ρ Os wo hs' hb hc' => ?_
          have h29 : ρ (.tmp 29) = .pointer (some ⟨bk, 0, none⟩) := hs'.val' 29 1 (by kernel_rfl) rfl
          go_simp
          exact Ord.post_val rfl rfl
        · refine Ord.owes_plain rfl fun ρ Os wo hs' hb hc' => ?_
          have h30 : ρ (.tmp 30) = .pointer (some ⟨bk, 1, none⟩) := hs'.val' 30 2 (by kernel_rfl) rfl
          have c0 : wo.cell? ⟨bk, 1, none⟩ = some (.int .i64 (n : Int)) := cell_blk ((hs'.early' 17 (by kernel_rfl) bk rfl).trans HBX.out) 1
          go_simp
          exact Ord.post_val rfl rfl
        · refine Ord.owes_plain rfl fun ρ Os wo hs' hb hc' => ?_
          have h0 : ρ (.tmp 0) = .pointer (some ⟨bk, 0, none⟩) := hs'.old' 0 (by kernel_rfl)
          exact Any.ok_move (Ord.post_val rfl h0)
        · refine Ord.owes_plain rfl fun ρ Os wo hs' hb hc' => ?_
          have h32 : ρ (.tmp 32) = .pointer (some ⟨bk, 0, none⟩) := hs'.val' 32 4 (by kernel_rfl) rfl
          go_simp
          exact Ord.post_val rfl rfl
        · refine Ord.owes_plain rfl fun ρ Os wo hs' hb hc' => ?_
          have h33 : ρ (.tmp 33) = .pointer (some ⟨bk, 0, none⟩) := hs'.val' 33 5 (by kernel_rfl) rfl
          go_simp
          exact Ord.post_val rfl rfl
        · refine Ord.owes_plain rfl fun ρ Os wo hs' hb hc' => ?_
          have h34 : ρ (.tmp 34) = .pointer (some ⟨bk, 0, none⟩) := hs'.val' 34 6 (by kernel_rfl) rfl
          have c0 : wo.cell? ⟨bk, 0, none⟩ = some (.map (some bm)) := cell_blk ((hs'.early' 17 (by kernel_rfl) bk rfl).trans HBX.out) 0
          go_simp
          exact Ord.post_val rfl rfl
        · refine Ord.owes_plain rfl fun ρ Os wo hs' hb hc' => ?_
          have h1 : ρ (.tmp 1) = .string t := hs'.old' 1 (by kernel_rfl)
          exact Any.ok_move (Ord.post_val rfl h1)
        · refine Ord.owes_plain rfl fun ρ Os wo hs' hb hc' => ?_
          have h35 : ρ (.tmp 35) = .map (some bm) := hs'.val' 35 7 (by kernel_rfl) rfl
          have h36 : ρ (.tmp 36) = .string t := hs'.val' 36 8 (by kernel_rfl) rfl
          have hm : Mp.MapAt wo bm es := HMW.out.same (hb.block bm HMW.out.lt HNE.out)
          exact Mp.ok_lookup (l := es) (key := t) Try.underlying58 Try.underlying9 (zeroRow _) h35 h36 hm (Ord.post_val rfl ((look_row es t).trans HV.out))
        · refine Ord.owes_plain rfl fun ρ Os wo hs' hb hc' => ?_
          have h37 : ρ (.tmp 37) = .slice ar (R t).length cr := hs'.val' 37 9 (by kernel_rfl) rfl
          go_simp
          exact Ord.post_val rfl rfl
        · refine Ord.owes_plain rfl fun ρ Os wo hs' hb hc' => ?_
          have h6 : ρ (.tmp 6) = .slice ak D.length ck := hs'.old' 6 (by kernel_rfl)
          exact Any.ok_move (Ord.post_val rfl h6)
        · refine Ord.owes_plain rfl fun ρ Os wo hs' hb hc' => ?_
          have h39 : ρ (.tmp 39) = .slice ak D.length ck := hs'.val' 39 11 (by kernel_rfl) rfl
          go_simp
          exact Ord.post_val rfl rfl
        · refine Ord.owes_plain rfl fun ρ Os wo hs' hb hc' => ?_
          have h38 : ρ (.tmp 38) = .int .i64 ((R t).length : Int) := hs'.val' 38 10 (by kernel_rfl) rfl
          have h40 : ρ (.tmp 40) = .int .i64 (D.length : Int) := hs'.val' 40 12 (by kernel_rfl) rfl
          have e : IntKind.i64.wrap (((R t).length : Int) - (D.length : Int)) = ((R t).length : Int) - (D.length : Int) := IntWalk.i64_in _ (by omega)
          go_simp
          exact Ord.post_val rfl rfl
        · refine Ord.owes_plain rfl fun ρ Os wo hs' hb hc' => ?_
          have h31 : ρ (.tmp 31) = .int .i64 (n : Int) := hs'.val' 31 3 (by kernel_rfl) rfl
          have h41 : ρ (.tmp 41) = .int .i64 (((R t).length : Int) - (D.length : Int)) := hs'.val' 41 13 (by kernel_rfl) rfl
          have e : IntKind.i64.wrap ((n : Int) - (((R t).length : Int) - (D.length : Int))) = (n : Int) - (((R t).length : Int) - (D.length : Int)) := IntWalk.i64_in _ (by omega)
          go_simp
          exact Ord.post_val rfl rfl
        · refine Ord.owes_plain rfl fun ρ Os wo hs' hb hc' => ?_
          have h28 : ρ (.tmp 28) = .pointer (some ⟨bk, 0, none⟩) := hs'.val' 28 0 (by kernel_rfl) rfl
          go_simp
          exact Ord.post_val rfl rfl
        · refine Ord.owes_plain rfl fun ρ Os wo hs' hb hc' => ?_
          have h43 : ρ (.tmp 43) = .pointer (some ⟨bk, 0, none⟩) := hs'.val' 43 15 (by kernel_rfl) rfl
          go_simp
          exact Ord.post_val rfl rfl
        · refine Ord.owes_plain rfl fun ρ Os wo hs' hb hc' => ?_
          have h44 : ρ (.tmp 44) = .pointer (some ⟨bk, 1, none⟩) := hs'.val' 44 16 (by kernel_rfl) rfl
          have h42 : ρ (.tmp 42) = .int .i64 ((n : Int) - (((R t).length : Int) - (D.length : Int))) := hs'.val' 42 14 (by kernel_rfl) rfl
          exact Ord.ok_setc h44 h42 HBX.out (hs'.here bk rfl) (by simp) rfl (fun _ => rfl) rfl
      · intro vals Os ρs wS hk hkn hln hap hbd
        have h17 := hkn 17 (by kernel_rfl)
        clear hkn hln hap hbd
        have HKS := Lib.hid hk
        have HBS := Lib.hid h17.1
        have HOS := Lib.hid (ownsRow_keep HO.out HKS.out (fun g hg e => by have := (HO.out.lt g hg).1; have := HLK.out; omega))
        have HMS := Lib.hid (HMW.out.same (hk.block bm HMW.out.lt HNE.out))
        have z0 : wS.cell? ⟨bk, 0, none⟩ = some (.map (some bm)) := cell_blk HBS.out 0
        clear hk h17
        rcases Decidable.em (D = []) with h0 | h0
        · subst h0
          go_wp2_with (first
            | ((with_reducible refine Mp.wpl_deletem (b := bm) (l := es) (key := t) ?_ ?_ ?_ Try.underlying58 Try.underlying9 HMS.out ?_); rfl; rfl; rfl; intro wT hmT hgT hzT; have HMT := Lib.hid hmT; have HGT := Lib.hid hgT; clear hmT hgT hzT; go_frame)
            | fail)
          go_end0
          exact kept_del HH.out HBEL.out HKS.out HBS.out HMT.out HGT.out HEQ.out HN2.out
        · have tD : ((D.length : Int) == 0) = false := by
            have : ¬ D.length = 0 := fun e => h0 (List.length_eq_zero_iff.1 e)
            simp; omega
          have tE : (D.length == 0) = false := by
            have : ¬ D.length = 0 := fun e => h0 (List.length_eq_zero_iff.1 e)
            simp [this]
          have HD0 := Lib.hid h0
          clear h0
          go_wp2_with (first
            | ((with_reducible refine Mp.wpl_update (b := bm) (l := es) (key := t) (v := .slice ak D.length ck) ?_ ?_ ?_ ?_ Try.underlying58 Try.underlying9 HMS.out ?_); rfl; rfl; rfl; rfl; intro wT hmT hgT hzT; have HMT := Lib.hid hmT; have HGT := Lib.hid hgT; clear hmT hgT hzT; go_frame)
            | fail)
          go_end0
          exact kept_set HH.out HD0.out HBEL.out HKS.out HBS.out HOS.out HMT.out HGT.out HEQ.out HN2.out
end Go.Proofs.Ytnlfhncbnfmccaa.Sc
