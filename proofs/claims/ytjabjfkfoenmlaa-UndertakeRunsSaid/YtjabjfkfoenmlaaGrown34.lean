/- Both lives, grown side by side by the same events. -/
import Derived.Test.YtjabjfkfoenmlaaSim34
import Derived.Test.YtjabjfkfoenmlaaTerms34
import Derived.OwnWalk
namespace Go.Proofs.Ytjabjfkfoenmlaa.Sc
open Go Go.RowKit Go.ChangeShapes Go.WideShapes Go.ChangeAt
set_option maxRecDepth 100000

/-- The two lives in memory, new since w0, apart from one another. -/
def Pair (w0 w : World) (bk bx : Nat) (l x : Lf) : Prop := ∃ F G : Nat → Prop, Lv w 74 F bk l ∧ Lv w 65 G bx x ∧
  (∀ k, F k → w0.heap.size ≤ k) ∧ (∀ k, G k → w0.heap.size ≤ k) ∧ (∀ k, F k → ¬ G k) ∧ Below w0.heap.size w0 w
theorem Pair.base {w w0 W : World} {bk bx : Nat} {l x : Lf} (h : Pair w0 W bk bx l x) (hb : Below w.heap.size w w0) : Pair w W bk bx l x := by
  obtain ⟨F, G, h1, h2, h3, h4, h5, h6⟩ := h
  exact ⟨F, G, h1, h2, fun k hk => Nat.le_trans hb.size (h3 k hk), fun k hk => Nat.le_trans hb.size (h4 k hk), h5, hb.trans (h6.mono hb.size)⟩
theorem refNew_cells (t : Tm) : Array.foldl (fun (cs : Array Value) (x : Value × Nat) => cs.setIfInBounds x.snd x.fst)
    #[.string ⟨#[]⟩, .string ⟨#[]⟩, .string ⟨#[]⟩, .string ⟨#[]⟩, .string ⟨#[]⟩, .string ⟨#[]⟩, .string ⟨#[]⟩, .string ⟨#[]⟩, .int .i64 0, .int .i64 0, .int .i64 0, .int .i64 0, .int .i64 0, .int .i64 0, .int .i64 0, .bool false, .bool false, .slice none 0 0,
      .int .i64 0, .bool false, .bool false, .int .i64 0, .int .i64 0, .slice none 0 0, .slice none 0 0] t.cr.cells.zipIdx 0 18 = (Lf.new t.cr).cells (.slice none 0 0) (.slice none 0 0) := new_cells t.cr
theorem pair_start {w0 w : World} {bk : Nat} {c : Cr} {F : Nat → Prop} (hb : Below w0.heap.size w0 w) (h : Lv w 74 F bk (Lf.new c)) (hF : ∀ k, F k → w0.heap.size ≤ k) {cs : Array Value} (hcs : cs = (Lf.new c).cells (.slice none 0 0) (.slice none 0 0)) :
    Pair w0 (w.alloc (.cells cs 65)) bk w.heap.size (Lf.new c) (Lf.new c) := by
  subst hcs
  refine ⟨F, fun k => k = w.heap.size, h.below (one_below _ _), ⟨.slice none 0 0, .slice none 0 0, heap_alloc_new _ _, World.ownsRow_nil _ _ _ _, World.ownsRow_nil _ _ _ _, (fun g hg => by cases hg), (fun g hg => by cases hg), rfl, fun k hk => by subst hk; simp⟩, hF, fun k hk => by subst hk; exact hb.size, fun k hk e => ?_, hb.alloc hb.size _⟩
  have := h.lt k hk
  omega

/-- The reference's life behind the same events. -/
def lifeOfR (c : Cr) (l : List Ev) : Lf := l.foldl (fun x e => (x.stepR e).2) (Lf.new c)
theorem lifeOfR_take (c : Cr) (l : List Ev) (k : Nat) (h : k < l.length) : lifeOfR c (l.take (k + 1)) = ((lifeOfR c (l.take k)).stepR l[k]).2 := by
  unfold lifeOfR
  rw [List.take_succ_eq_append_getElem h, List.foldl_append]
  rfl
theorem sim_life (c : Cr) (l : List Ev) (k : Nat) : Sim (lifeOf c (l.take k)) (lifeOfR c (l.take k)) := by
  induction k with
  | zero => exact sim_refl _
  | succ k ih =>
    by_cases hk : k < l.length
    · rw [lifeOf_take c l k hk, lifeOfR_take c l k hk]
      have g : (lifeOf c (l.take k)).good c.bare := lifeOf_good c (l.take k)
      exact (sim_step ih g.s0 g.s7 l[k]).2
    · rw [List.take_of_length_le (by omega)]
      rw [List.take_of_length_le (by omega)] at ih
      exact ih

set_option maxHeartbeats 8000000 in
theorem grown_any (t : Tm) (l : List Ev) (v : Value) (w : World) (hs : Sl w 4 v (l.map Ev.row)) (hl40 : l.length ≤ 40) (hf : ∀ e ∈ l, e.fit) (hli : t.cr.lives = true) :
    Calls Try.prog 25 #[.agg t.cells, v] w fun e w' => ∃ bk bx, e = .returned (.tuple #[.pointer (some ⟨bk, 0, none⟩), .pointer (some ⟨bx, 0, none⟩), .bool true]) ∧ Pair w w' bk bx (lifeOf t.cr l) (lifeOfR t.cr l) := by
  obtain ⟨a, c, rfl⟩ : ∃ a c, v = .slice a l.length c := by simpa using hs.shape
  obtain ⟨w0, hw0⟩ : ∃ x, x = w.alloc (.cells t.cells 23) := ⟨_, rfl⟩
  have HX : Hid (w0.heap[w.heap.size]? = some (.cells t.cells 23 (0, 0))) := Lib.hid (hw0 ▸ heap_alloc_new _ _)
  have HB0 : Hid (Below w.heap.size w w0) := Lib.hid (hw0 ▸ one_below _ _)
  have HS := Lib.hid (hs.below HB0.out (Nat.le_refl _))
  have CR := Lib.hid (fun W => credit_any t W)
  have NW := Lib.hid (new_yes t.cr hli)
  have HLV := Lib.hid (lives_iff hli)
  have HL40 := Lib.hid hl40
  have HFT := Lib.hid hf
  have hl40 : (l.length : Int) ≤ 40 := by omega
  have HW0 := Lib.hid hw0
  clear hs hli hf hw0
  go_enter Try.func25, Try.ntmps25
  go_wp2_with (first
    | (refine load_tm (.tmp 2) w.heap.size t rfl rfl (by rw [← HW0.out]; exact HX.out) ?_)
    | (refine load_tm (.tmp 2) w.heap.size t rfl rfl HX6.out ?_)
    | ((with_reducible refine (CR.out _).mono ?_); rintro e w4 ⟨rfl, hb4⟩; rw [← HW0.out] at hb4; have HX1 := Lib.hid (blk hb4 (lt_blk HX.out) HX.out); have HB1 := Lib.hid hb4; clear hb4)
    | ((with_reducible refine (NW.out _).mono ?_); rintro e w6 ⟨bk, rfl, hb6, F0, hlv6, hF6⟩; have HX6 := Lib.hid (blk hb6 (lt_blk HX1.out) HX1.out); have HB6 := Lib.hid (below_then HB1.out hb6); have HLV6 := Lib.hid hlv6; have HF6 : Hid (∀ k, F0 k → w0.heap.size ≤ k) := Lib.hid (fun k hk => Nat.le_trans HB1.out.size (hF6 k hk)); clear hb6 hlv6 hF6)
    | ((with_reducible refine (CR.out _).mono ?_); rintro e w7 ⟨rfl, hb7⟩; have HB7 := Lib.hid (below_then HB6.out hb7); have HLV7 := Lib.hid (HLV6.out.below hb7); clear hb7)
    | fail)
  have HP0 := Lib.hid (pair_start HB7.out HLV7.out HF6.out (refNew_cells t))
  generalize w7.heap.size = bx at *
  generalize w7.alloc (.cells _ 65) = w8 at *
  go_loopw [10] (fun i wr => ∃ (k : Nat), k ≤ l.length ∧ i = .int .i64 k ∧ Pair w0 wr bk bx (lifeOf t.cr (l.take k)) (lifeOfR t.cr (l.take k))) (fun i _ => l.length - (intOf i).toNat)
  case atStart => exact ⟨0, Nat.zero_le _, rfl, HP0.out⟩
  case round =>
    obtain ⟨k, hk, rfl, hp⟩ := hrel
    have HPK := Lib.hid hp
    by_cases hlt : k < l.length
    · obtain ⟨F, G, hlv, hxv, hF, hG, hFG, hbel⟩ := hp
      obtain ⟨b, off, rfl, -, hb, hc⟩ := HS.out.at (i := k) (by simpa using hlt)
      have hr := hc k l[k].row (by simp [hlt])
      have HD : Hid (∀ W, Keep (fun b => F b ∨ G b) wr W → W.cell? ⟨b, off + k * 4, none⟩ = some (.int .i64 l[k].kind) ∧ W.cell? ⟨b, off + k * 4 + 1, none⟩ = some (.string l[k].party) ∧ W.cell? ⟨b, off + k * 4 + 2, none⟩ = some (.int .i64 l[k].day) ∧ W.cell? ⟨b, off + k * 4 + 3, none⟩ = some (.int .i64 l[k].amt)) := Lib.hid (fun W h => by
        have hwb : b < wr.heap.size := Nat.lt_of_lt_of_le hb hbel.size
        have hno : ¬ (F b ∨ G b) := fun h => by have := h.elim (hF b) (hG b); omega
        exact ⟨(h.cell (b := b) (o := off + k * 4) hwb hno).trans ((hbel.cell (p := ⟨b, off + k * 4, none⟩) hb).trans (hr 0 _ rfl)), (h.cell (b := b) (o := off + k * 4 + 1) hwb hno).trans ((hbel.cell (p := ⟨b, off + k * 4 + 1, none⟩) hb).trans (hr 1 _ rfl)),
          (h.cell (b := b) (o := off + k * 4 + 2) hwb hno).trans ((hbel.cell (p := ⟨b, off + k * 4 + 2, none⟩) hb).trans (hr 2 _ rfl)), (h.cell (b := b) (o := off + k * 4 + 3) hwb hno).trans ((hbel.cell (p := ⟨b, off + k * 4 + 3, none⟩) hb).trans (hr 3 _ rfl))⟩)
      have HLK := Lib.hid hlv
      have HXK := Lib.hid hxv
      have HF := Lib.hid hF
      have HG := Lib.hid hG
      have HFG := Lib.hid hFG
      have HBK := Lib.hid hbel
      have HT := Lib.hid (lifeOf_take t.cr l k hlt)
      have HTX := Lib.hid (lifeOfR_take t.cr l k hlt)
      have hg : (lifeOf t.cr (l.take k)).good t.cr := lifeOf_good t.cr (l.take k)
      have hln : (lifeOf t.cr (l.take k)).evs.length ≤ 40 ∧ (lifeOf t.cr (l.take k)).paid.length ≤ 40 := by
        have h1 := lifeOf_len t.cr (l.take k)
        have h2 := HL40.out
        simp at h1
        omega
      have hsm := sim_life t.cr l k
      obtain ⟨hxf, hxe, hxp⟩ := sim_fit HLV.out hg hsm
      have DOP := Lib.hid (fun W F (h : Lv W 74 F bk (lifeOf t.cr (l.take k))) => doP_any bk _ F l[k] W h hg.s0 hg.s7 (by omega) (by omega))
      have DOR := Lib.hid (fun W F (h : Lv W 65 F bx (lifeOfR t.cr (l.take k))) => doR_any bx _ F l[k] W h hxf (by rw [hxp]; omega) (by rw [hxe]; omega) (HFT.out _ (List.getElem_mem hlt)))
      obtain ⟨hcd, -⟩ := sim_step hsm hg.s0 hg.s7 l[k]
      unfold Ev.cells at DOP DOR
      clear hr hc hlv hxv hF hG hFG hbel hxf hxe hxp hsm hg hln
      generalize hx : l[k] = x at *
      generalize lifeOf t.cr (l.take k) = lk at *
      generalize lifeOfR t.cr (l.take k) = xk at *
      generalize lk.step x = st at *
      generalize xk.stepR x = sx at *
      obtain ⟨c0, l1⟩ := st
      obtain ⟨cd, x1⟩ := sx
      simp only at hcd
      subst hcd
      clear hx
      go_wp2_with fail
      refine Ord.region_lit (fun
        | 0 => Ord.val (.pointer (some ⟨bk, 0, none⟩))
        | 1 => Ord.val (.slice (some ⟨b, off, none⟩) l.length c)
        | 2 => Ord.val (.int .i64 k)
        | 3 => Ord.val (.pointer (some ⟨b, off + k * 4, none⟩))
        | 4 => Ord.val (.agg #[.int .i64 x.kind, .string x.party, .int .i64 x.day, .int .i64 x.amt])
        | 5 => ⟨fun _ v O w => v = .int .i64 cd ∧ Lv w 74 O bk l1, [], F⟩
        | 6 => Ord.val (.pointer (some ⟨bx, 0, none⟩))
        | 7 => Ord.val (.slice (some ⟨b, off, none⟩) l.length c)
        | 8 => Ord.val (.int .i64 k)
        | 9 => Ord.val (.pointer (some ⟨b, off + k * 4, none⟩))
        | 10 => Ord.val (.agg #[.int .i64 x.kind, .string x.party, .int .i64 x.day, .int .i64 x.amt])
        | 11 => ⟨fun _ v O w => v = .int .i64 cd ∧ Lv w 65 O bx x1, [], G⟩
        | 12 => Ord.val (.bool false)
        | _ => Ord.idle) (fun b => F b ∨ G b) (by kernel_rfl) (by kernel_rfl) (by kernel_rfl) ?_ ?_ ?_ ?_
      · intro i _
        match i with
        | 0 => exact Ord.lasts_val _
        | 1 => exact Ord.lasts_val _
        | 2 => exact Ord.lasts_val _
        | 3 => exact Ord.lasts_val _
        | 4 => exact Ord.lasts_val _
        | 5 => exact ⟨fun ρ v O w h b hb => h.2.lt b hb, fun ρ v O w w' h h1 h2 h3 h4 => ⟨h.1, h.2.stands h1 h2 h3 h4⟩⟩
        | 6 => exact Ord.lasts_val _
        | 7 => exact Ord.lasts_val _
        | 8 => exact Ord.lasts_val _
        | 9 => exact Ord.lasts_val _
        | 10 => exact Ord.lasts_val _
        | 11 => exact ⟨fun ρ v O w h b hb => h.2.lt b hb, fun ρ v O w w' h h1 h2 h3 h4 => ⟨h.1, h.2.stands h1 h2 h3 h4⟩⟩
        | 12 => exact Ord.lasts_val _
        | n + 13 => exact Ord.lasts_idle
      · refine ⟨fun k b _ hh => ?_, fun k b _ hh => ?_, fun k k' b _ _ hne h1 h2 => ?_⟩
        · match k, hh with
          | 0, hh => exact hh.elim
          | 1, hh => exact hh.elim
          | 2, hh => exact hh.elim
          | 3, hh => exact hh.elim
          | 4, hh => exact hh.elim
          | 5, hh => exact .inl hh
          | 6, hh => exact hh.elim
          | 7, hh => exact hh.elim
          | 8, hh => exact hh.elim
          | 9, hh => exact hh.elim
          | 10, hh => exact hh.elim
          | 11, hh => exact .inr hh
          | 12, hh => exact hh.elim
          | m + 13, hh => exact hh.elim
        · match k, hh with
          | 0, hh => exact hh.elim
          | 1, hh => exact hh.elim
          | 2, hh => exact hh.elim
          | 3, hh => exact hh.elim
          | 4, hh => exact hh.elim
          | 5, hh => exact HLK.out.lt b hh
          | 6, hh => exact hh.elim
          | 7, hh => exact hh.elim
          | 8, hh => exact hh.elim
          | 9, hh => exact hh.elim
          | 10, hh => exact hh.elim
          | 11, hh => exact HXK.out.lt b hh
          | 12, hh => exact hh.elim
          | m + 13, hh => exact hh.elim
        · have a : (k = 5 ∧ (F) b) ∨ (k = 11 ∧ (G) b) := by
            match k, h1 with
            | 0, hh => exact hh.elim
            | 1, hh => exact hh.elim
            | 2, hh => exact hh.elim
            | 3, hh => exact hh.elim
            | 4, hh => exact hh.elim
            | 5, hh => exact .inl ⟨rfl, hh⟩
            | 6, hh => exact hh.elim
            | 7, hh => exact hh.elim
            | 8, hh => exact hh.elim
            | 9, hh => exact hh.elim
            | 10, hh => exact hh.elim
            | 11, hh => exact Or.inr (⟨rfl, hh⟩)
            | 12, hh => exact hh.elim
            | m + 13, hh => exact hh.elim
          have a' : (k' = 5 ∧ (F) b) ∨ (k' = 11 ∧ (G) b) := by
            match k', h2 with
            | 0, hh => exact hh.elim
            | 1, hh => exact hh.elim
            | 2, hh => exact hh.elim
            | 3, hh => exact hh.elim
            | 4, hh => exact hh.elim
            | 5, hh => exact .inl ⟨rfl, hh⟩
            | 6, hh => exact hh.elim
            | 7, hh => exact hh.elim
            | 8, hh => exact hh.elim
            | 9, hh => exact hh.elim
            | 10, hh => exact hh.elim
            | 11, hh => exact Or.inr (⟨rfl, hh⟩)
            | 12, hh => exact hh.elim
            | m + 13, hh => exact hh.elim
          rcases a with ⟨rfl, a⟩ | ⟨rfl, a⟩ <;> rcases a' with ⟨rfl, a'⟩ | ⟨rfl, a'⟩
          all_goals first | exact absurd rfl hne | (first | exact HFG.out _ a a' | exact HFG.out _ a' a)
      · refine ⟨?_, ?_, ?_, ?_, ?_, ?_, ?_, ?_, ?_, ?_, ?_, ?_, ?_, trivial⟩
        · refine Ord.owes_plain rfl fun ρ Os wo hs' hb hc' => ?_
          have h7 : ρ (.tmp 7) = .pointer (some ⟨bk, 0, none⟩) := hs'.old' 7 (by kernel_rfl)
          exact Any.ok_move (Ord.post_val rfl h7)
        · refine Ord.owes_plain rfl fun ρ Os wo hs' hb hc' => ?_
          have h1 : ρ (.tmp 1) = .slice (some ⟨b, off, none⟩) l.length c := hs'.old' 1 (by kernel_rfl)
          exact Any.ok_move (Ord.post_val rfl h1)
        · refine Ord.owes_plain rfl fun ρ Os wo hs' hb hc' => ?_
          have h10 : ρ (.tmp 10) = .int .i64 k := hs'.old' 10 (by kernel_rfl)
          exact Any.ok_move (Ord.post_val rfl h10)
        · refine Ord.owes_plain rfl fun ρ Os wo hs' hb hc' => ?_
          have h34 : ρ (.tmp 34) = .slice (some ⟨b, off, none⟩) l.length c := hs'.val' 34 1 (by kernel_rfl) rfl
          have h35 : ρ (.tmp 35) = .int .i64 k := hs'.val' 35 2 (by kernel_rfl) rfl
          go_simp
          exact Ord.post_val rfl rfl
        · refine Ord.owes_plain rfl fun ρ Os wo hs' hb hc' => ?_
          have h36 : ρ (.tmp 36) = .pointer (some ⟨b, off + k * 4, none⟩) := hs'.val' 36 3 (by kernel_rfl) rfl
          have c0 := (HD.out wo hb.undrew).1
          have c1 := (HD.out wo hb.undrew).2.1
          have c2 := (HD.out wo hb.undrew).2.2.1
          have c3 := (HD.out wo hb.undrew).2.2.2
          go_simp
          exact Ord.post_val rfl rfl
        · refine Ord.owes_plain rfl fun ρ Os wo hs' hb hc' => ?_
          have h33 : ρ (.tmp 33) = .pointer (some ⟨bk, 0, none⟩) := hs'.val' 33 0 (by kernel_rfl) rfl
          have h37 : ρ (.tmp 37) = .agg #[.int .i64 x.kind, .string x.party, .int .i64 x.day, .int .i64 x.amt] := hs'.val' 37 4 (by kernel_rfl) rfl
          have hf := hs'.func 16
          go_simp
          exact (DOP.out wo F (HLK.out.stands (Keep.refl _ _) hb.undrew hb.size hs'.here)).mono fun e w' ⟨he, hk', F', hl', hF'⟩ => ⟨_, he, Ord.post_turn ⟨rfl, hl'⟩ hk' hF'⟩
        · refine Ord.owes_plain rfl fun ρ Os wo hs' hb hc' => ?_
          have h9 : ρ (.tmp 9) = .pointer (some ⟨bx, 0, none⟩) := hs'.old' 9 (by kernel_rfl)
          exact Any.ok_move (Ord.post_val rfl h9)
        · refine Ord.owes_plain rfl fun ρ Os wo hs' hb hc' => ?_
          have h1 : ρ (.tmp 1) = .slice (some ⟨b, off, none⟩) l.length c := hs'.old' 1 (by kernel_rfl)
          exact Any.ok_move (Ord.post_val rfl h1)
        · refine Ord.owes_plain rfl fun ρ Os wo hs' hb hc' => ?_
          have h10 : ρ (.tmp 10) = .int .i64 k := hs'.old' 10 (by kernel_rfl)
          exact Any.ok_move (Ord.post_val rfl h10)
        · refine Ord.owes_plain rfl fun ρ Os wo hs' hb hc' => ?_
          have h40 : ρ (.tmp 40) = .slice (some ⟨b, off, none⟩) l.length c := hs'.val' 40 7 (by kernel_rfl) rfl
          have h41 : ρ (.tmp 41) = .int .i64 k := hs'.val' 41 8 (by kernel_rfl) rfl
          go_simp
          exact Ord.post_val rfl rfl
        · refine Ord.owes_plain rfl fun ρ Os wo hs' hb hc' => ?_
          have h42 : ρ (.tmp 42) = .pointer (some ⟨b, off + k * 4, none⟩) := hs'.val' 42 9 (by kernel_rfl) rfl
          have c0 := (HD.out wo hb.undrew).1
          have c1 := (HD.out wo hb.undrew).2.1
          have c2 := (HD.out wo hb.undrew).2.2.1
          have c3 := (HD.out wo hb.undrew).2.2.2
          go_simp
          exact Ord.post_val rfl rfl
        · refine Ord.owes_plain rfl fun ρ Os wo hs' hb hc' => ?_
          have h39 : ρ (.tmp 39) = .pointer (some ⟨bx, 0, none⟩) := hs'.val' 39 6 (by kernel_rfl) rfl
          have h43 : ρ (.tmp 43) = .agg #[.int .i64 x.kind, .string x.party, .int .i64 x.day, .int .i64 x.amt] := hs'.val' 43 10 (by kernel_rfl) rfl
          have hf := hs'.func 28
          go_simp
          exact (DOR.out wo G (HXK.out.stands (Keep.refl _ _) hb.undrew hb.size hs'.here)).mono fun e w' ⟨he, hk', F', hl', hF'⟩ => ⟨_, he, Ord.post_turn ⟨rfl, hl'⟩ hk' hF'⟩
        · refine Ord.owes_plain rfl fun ρ Os wo hs' hb hc' => ?_
          obtain ⟨-, e1, -⟩ := hs'.new' 38 5 (by kernel_rfl)
          obtain ⟨-, e2, -⟩ := hs'.new' 44 11 (by kernel_rfl)
          go_simp
          exact Ord.post_val rfl rfl
      · intro vals Os ρs w3 hk hkn hln hap hbd
        have h12 := (hkn 12 (by kernel_rfl)).1
        obtain ⟨-, hl5⟩ := hkn 5 (by kernel_rfl)
        obtain ⟨-, hl11⟩ := hkn 11 (by kernel_rfl)
        have hap5 := hap 5 11 (by kernel_rfl)
        have hb5 := hbd 5 (by kernel_rfl)
        have hb11 := hbd 11 (by kernel_rfl)
        have HP2 : Hid (Pair w0 w3 bk bx l1 x1) := Lib.hid ⟨Os 5, Os 11, hl5, hl11, fun b hb => (hb5 b hb).elim (fun h => Nat.le_trans HBK.out.size h) (fun h => h.elim (HF.out b) (HG.out b)), fun b hb => (hb11 b hb).elim (fun h => Nat.le_trans HBK.out.size h) (fun h => h.elim (HF.out b) (HG.out b)), hap5, hk.behind HBK.out HBK.out.size (fun b hlt h => by have := h.elim (HF.out b) (HG.out b); omega)⟩
        clear hkn hln hap hbd hl5 hl11 hap5 hb5 hb11
        simp only [Any.putAll]
        go_frame
        simp only [Nat.zero_add, Nat.reduceAdd]
        rw [h12]
        go_wp2_with fail
        go_roundw
        case rel => exact ⟨k + 1, by omega, by go_num, by rw [HT.out, HTX.out]; exact HP2.out⟩
        case measure => (simp [intOf]) <;> omega
    · have hkl : k = l.length := by omega
      have HPL : Hid (Pair w0 wr bk bx (lifeOf t.cr l) (lifeOfR t.cr l)) := Lib.hid (by have := HPK.out; rwa [List.take_of_length_le (by omega)] at this)
      clear hkl hp
      go_wp2_with fail
      go_ret3
      exact ⟨bk, bx, rfl, HPL.out.base HB0.out⟩
end Go.Proofs.Ytjabjfkfoenmlaa.Sc
