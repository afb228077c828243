/- The statement UndertakeRuns: whatever happens, each answer, the state, who owes how much, who is bound, what may happen next and all that happened are the document's; of a credit that may not live there is the error; no condition. -/
import Derived.Test.YtjabjfkfoenmlaaEven34
import Derived.ChangeMaps5
namespace Go.Proofs.Ytjabjfkfoenmlaa.undertakeRuns
open Go.ChangeShapes Go.WideShapes Go.ChangeAt Go.RowKit Go Sc
set_option maxRecDepth 100000

def Both (w : World) (bk bx : Nat) (l x : Lf) (O : Nat → Prop) : Prop := ∃ F G : Nat → Prop, Lv w 74 F bk l ∧ Lv w 65 G bx x ∧ (∀ b, F b → ¬ G b) ∧ ∀ b, O b ↔ (F b ∨ G b)
theorem both_range {bk bx : Nat} {l x : Lf} : ∀ (_ : Operand → Value) (v : Value) (O : Nat → Prop) (w : World), (v = .bool false ∧ Both w bk bx l x O) → ∀ b, O b → b < w.heap.size := by
  rintro _ v O w ⟨-, F, G, h1, h2, -, h4⟩ b hb
  exact ((h4 b).1 hb).elim (h1.lt b) (h2.lt b)
theorem both_keep {bk bx : Nat} {l x : Lf} {H : Nat → Prop} {w0 : World} : ∀ (_ : Operand → Value) (v : Value) (O : Nat → Prop) (w w' : World), (v = .bool false ∧ Both w bk bx l x O) → Keep H w0 w → Keep H w0 w' → w.heap.size ≤ w'.heap.size → (∀ b, O b → w'.heap[b]? = w.heap[b]?) → (v = .bool false ∧ Both w' bk bx l x O) := by
  rintro _ v O w w' ⟨h0, F, G, h1, h2, h3, h4⟩ k1 k2 hs hk
  exact ⟨h0, F, G, h1.stands k1 k2 hs (fun b hb => hk b ((h4 b).2 (.inl hb))), h2.stands k1 k2 hs (fun b hb => hk b ((h4 b).2 (.inr hb))), h3, h4⟩

set_option maxHeartbeats 8000000 in
theorem walk_yes (w : World) (t : Tm) (l : List Ev) (v : Value) (party : ByteArray) (hs : Sl w 4 v (l.map Ev.row)) (hf : ∀ e ∈ l, e.fit) (hlo : t.long = false) (hhe : heavy l 40 = false) (hpa : party.size ≤ 100) (hli : t.cr.lives = true) :
    Calls Try.prog 8 #[.agg t.cells, v, .string party] w (RetB w true) := by
  obtain ⟨a, c, rfl⟩ : ∃ a c, v = .slice a l.length c := by simpa using hs.shape
  obtain ⟨w0, hw0⟩ : ∃ x, x = w.alloc (.cells t.cells 23) := ⟨_, rfl⟩
  have HX : Hid (w0.heap[w.heap.size]? = some (.cells t.cells 23 (0, 0))) := Lib.hid (hw0 ▸ heap_alloc_new _ _)
  have HB0 : Hid (Below w.heap.size w w0) := Lib.hid (hw0 ▸ one_below _ _)
  have HS := Lib.hid (hs.below HB0.out (Nat.le_refl _))
  have LO := Lib.hid (fun W => long_any t W)
  have HE := Lib.hid (fun (W : World) (h : Sl W 4 (.slice a l.length c) (l.map Ev.row)) => heavy_any l 40 _ W h)
  have CR := Lib.hid (fun W => credit_any t W)
  have MA := Lib.hid (fun W => refMay34_any t W hlo)
  have NW := Lib.hid (new_yes t.cr hli)
  have HLV := Lib.hid (lives_iff hli)
  have HFT := Lib.hid hf
  have HL40 : Hid (l.length ≤ 40) := Lib.hid (by have := (heavy_no hhe).1; omega)
  have hl40 : (l.length : Int) ≤ 40 := by have := HL40.out; omega
  have tp : decide ((100 : Int) < (party.size : Int)) = false := decide_eq_false (by omega)
  rw [hlo] at LO
  rw [hhe] at HE
  rw [hli] at MA
  clear hs hlo hhe hli hf hpa
  go_enter Try.func8, Try.ntmps8
  go_wp2_with fail
  rw [← hw0]
  clear hw0
  go_wp2_with (first
    | ((with_reducible refine (awake_any _).mono ?_); rintro e w1 ⟨rfl, hb1⟩; have HX1 := Lib.hid (blk hb1 (lt_blk HX.out) HX.out); have HS1 := Lib.hid (HS.out.below hb1 (Nat.le_refl _)); have HB1 := Lib.hid hb1; clear hb1)
    | (refine load_tm (.tmp 3) w.heap.size t rfl rfl HX1.out ?_)
    | (refine load_tm (.tmp 3) w.heap.size t rfl rfl HX6.out ?_)
    | ((with_reducible refine (LO.out _).mono ?_); rintro e w2 ⟨rfl, hb2⟩; have HX1 := Lib.hid (blk hb2 (lt_blk HX1.out) HX1.out); have HS1 := Lib.hid (HS1.out.below hb2 (Nat.le_refl _)); have HB1 := Lib.hid (below_then HB1.out hb2); clear hb2)
    | ((with_reducible refine (HE.out _ HS1.out).mono ?_); rintro e w3 ⟨rfl, hb3⟩; have HX1 := Lib.hid (blk hb3 (lt_blk HX1.out) HX1.out); have HS1 := Lib.hid (HS1.out.below hb3 (Nat.le_refl _)); have HB1 := Lib.hid (below_then HB1.out hb3); clear hb3)
    | ((with_reducible refine (CR.out _).mono ?_); rintro e w4 ⟨rfl, hb4⟩; have HX1 := Lib.hid (blk hb4 (lt_blk HX1.out) HX1.out); have HS1 := Lib.hid (HS1.out.below hb4 (Nat.le_refl _)); have HB1 := Lib.hid (below_then HB1.out hb4); clear hb4)
    | ((with_reducible refine (NW.out _).mono ?_); rintro e w6 ⟨bk, rfl, hb6, F0, hlv6, hF6⟩; have HX6 := Lib.hid (blk hb6 (lt_blk HX1.out) HX1.out); have HB6 := Lib.hid (below_then HB1.out hb6); have HLV6 := Lib.hid hlv6; have HF6 : Hid (∀ k, F0 k → w0.heap.size ≤ k) := Lib.hid (fun k hk => Nat.le_trans HB1.out.size (hF6 k hk)); clear hb6 hlv6 hF6)
    | ((with_reducible refine (CR.out _).mono ?_); rintro e w7 ⟨rfl, hb7⟩; have HX6 := Lib.hid (blk hb7 (lt_blk HX6.out) HX6.out); have HLV6 := Lib.hid (HLV6.out.below hb7); have HB6 := Lib.hid (below_then HB6.out hb7); clear hb7)
    | ((with_reducible refine (MA.out _).mono ?_); rintro e w8 ⟨rfl, hb8⟩; have HX6 := Lib.hid (blk hb8 (lt_blk HX6.out) HX6.out); have HLV6 := Lib.hid (HLV6.out.below hb8); have HB6 := Lib.hid (below_then HB6.out hb8); clear hb8)
    | fail)
  have HP0 := Lib.hid (pair_start HB6.out HLV6.out HF6.out (refNew_cells t))
  clear tp
  generalize w7.heap.size = bx at *
  generalize w7.alloc (.cells _ 65) = w9 at *
  go_loopw [10] (fun i wr => ∃ (k : Nat), k ≤ l.length ∧ i = .int .i64 k ∧ Pair w0 wr bk bx (lifeOf t.cr (l.take k)) (lifeOfR t.cr (l.take k))) (fun i _ => l.length - (intOf i).toNat)
  case atStart => exact ⟨0, Nat.zero_le _, rfl, HP0.out⟩
  case round =>
    obtain ⟨k, hk, rfl, hp⟩ := hrel
    have HPK := Lib.hid hp
    by_cases hlt : k < l.length
    · obtain ⟨F, G, hlv, hxv, hF, hG, hFG, hbel⟩ := hp
      obtain ⟨b, off, rfl, -, hb, hc⟩ := HS.out.at (i := k) (by simpa using hlt)
      have hr := hc k l[k].row (by simp [hlt])
      have HD : Hid (∀ W, Keep (fun b => F b ∨ G b) wr W → W.cell? ⟨b, off + k * 4, none⟩ = some (.int .i64 l[k].kind) ∧ W.cell? ⟨b, off + k * 4 + 1, none⟩ = some (.string l[k].party) ∧ W.cell? ⟨b, off + k * 4 + 2, none⟩ = some (.int .i64 l[k].day) ∧ W.cell? ⟨b, off + k * 4 + 3, none⟩ = some (.int .i64 l[k].amt)) := Lib.hid (fun W h => by
        have hwb : b < wr.heap.size := Nat.lt_of_lt_of_le hb hbel.size
        have hno : ¬ (F b ∨ G b) := fun h => by have := h.elim (hF b) (hG b); omega
        exact ⟨(h.cell (b := b) (o := off + k * 4) hwb hno).trans ((hbel.cell (p := ⟨b, off + k * 4, none⟩) hb).trans (hr 0 _ rfl)), (h.cell (b := b) (o := off + k * 4 + 1) hwb hno).trans ((hbel.cell (p := ⟨b, off + k * 4 + 1, none⟩) hb).trans (hr 1 _ rfl)),
          (h.cell (b := b) (o := off + k * 4 + 2) hwb hno).trans ((hbel.cell (p := ⟨b, off + k * 4 + 2, none⟩) hb).trans (hr 2 _ rfl)), (h.cell (b := b) (o := off + k * 4 + 3) hwb hno).trans ((hbel.cell (p := ⟨b, off + k * 4 + 3, none⟩) hb).trans (hr 3 _ rfl))⟩)
      have HLK := Lib.hid hlv
      have HXK := Lib.hid hxv
      have HF := Lib.hid hF
      have HG := Lib.hid hG
      have HFG := Lib.hid hFG
      have HBK := Lib.hid hbel
      have HT := Lib.hid (lifeOf_take t.cr l k hlt)
      have HTX := Lib.hid (lifeOfR_take t.cr l k hlt)
      have hg : (lifeOf t.cr (l.take k)).good t.cr := lifeOf_good t.cr (l.take k)
      have hln : (lifeOf t.cr (l.take k)).evs.length ≤ 40 ∧ (lifeOf t.cr (l.take k)).paid.length ≤ 40 := by
        have h1 := lifeOf_len t.cr (l.take k)
        have h2 := HL40.out
        simp at h1
        omega
      have hsm := sim_life t.cr l k
      obtain ⟨hxf, hxe, hxp⟩ := sim_fit HLV.out hg hsm
      have DOP := Lib.hid (fun W F (h : Lv W 74 F bk (lifeOf t.cr (l.take k))) => doP_any bk _ F l[k] W h hg.s0 hg.s7 (by omega) (by omega))
      have DOR := Lib.hid (fun W F (h : Lv W 65 F bx (lifeOfR t.cr (l.take k))) => doR_any bx _ F l[k] W h hxf (by rw [hxp]; omega) (by rw [hxe]; omega) (HFT.out _ (List.getElem_mem hlt)))
      have hlen1 := step_len (lifeOf t.cr (l.take k)) l[k]
      have hg1 := step_good hg l[k]
      obtain ⟨hcd, hs1⟩ := sim_step hsm hg.s0 hg.s7 l[k]
      have HEV := Lib.hid (fun W F' G' (h1 : Lv W 74 F' bk ((lifeOf t.cr (l.take k)).step l[k]).2) (h2 : Lv W 65 G' bx ((lifeOfR t.cr (l.take k)).stepR l[k]).2) => even_any bk bx t.cr _ _ F' G' party W h1 h2 HLV.out hg1 hs1 (by omega))
      unfold Ev.cells at DOP DOR
      clear hr hc hlv hxv hF hG hFG hbel hxf hxe hxp hsm hg hln hlen1 hg1 hs1
      generalize hx : l[k] = x at *
      generalize lifeOf t.cr (l.take k) = lk at *
      generalize lifeOfR t.cr (l.take k) = xk at *
      generalize lk.step x = st at *
      generalize xk.stepR x = sx at *
      obtain ⟨c0, l1⟩ := st
      obtain ⟨cd, x1⟩ := sx
      simp only at hcd
      subst hcd
      clear hx
      go_wp2_with fail
      refine Ord.region_lit (fun
        | 0 => Ord.val (.pointer (some ⟨bk, 0, none⟩))
        | 1 => Ord.val (.slice (some ⟨b, off, none⟩) l.length c)
        | 2 => Ord.val (.int .i64 k)
        | 3 => Ord.val (.pointer (some ⟨b, off + k * 4, none⟩))
        | 4 => Ord.val (.agg #[.int .i64 x.kind, .string x.party, .int .i64 x.day, .int .i64 x.amt])
        | 5 => ⟨fun _ v O w => v = .int .i64 cd ∧ Lv w 74 O bk l1, [], F⟩
        | 6 => Ord.val (.pointer (some ⟨bx, 0, none⟩))
        | 7 => Ord.val (.slice (some ⟨b, off, none⟩) l.length c)
        | 8 => Ord.val (.int .i64 k)
        | 9 => Ord.val (.pointer (some ⟨b, off + k * 4, none⟩))
        | 10 => Ord.val (.agg #[.int .i64 x.kind, .string x.party, .int .i64 x.day, .int .i64 x.amt])
        | 11 => ⟨fun _ v O w => v = .int .i64 cd ∧ Lv w 65 O bx x1, [], G⟩
        | 12 => ⟨fun _ v O w => v = .bool false ∧ Both w bk bx l1 x1 O, [5, 11], fun _ => False⟩
        | 13 => ⟨fun _ v O w => v = .bool false ∧ Both w bk bx l1 x1 O, [12], fun _ => False⟩
        | 14 => Ord.val (.pointer (some ⟨bk, 0, none⟩))
        | 15 => Ord.val (.pointer (some ⟨bx, 0, none⟩))
        | 16 => Ord.val (.string party)
        | 17 => Ord.val (.bool true)
        | 18 => Ord.val (.bool false)
        | 19 => Ord.val (.bool false)
        | _ => Ord.idle) (fun b => F b ∨ G b) (by kernel_rfl) (by kernel_rfl) (by kernel_rfl) ?_ ?_ ?_ ?_
      · intro i _
        match i with
        | 0 => exact Ord.lasts_val _
        | 1 => exact Ord.lasts_val _
        | 2 => exact Ord.lasts_val _
        | 3 => exact Ord.lasts_val _
        | 4 => exact Ord.lasts_val _
        | 5 => exact ⟨fun ρ v O w h b hb => h.2.lt b hb, fun ρ v O w w' h h1 h2 h3 h4 => ⟨h.1, h.2.stands h1 h2 h3 h4⟩⟩
        | 6 => exact Ord.lasts_val _
        | 7 => exact Ord.lasts_val _
        | 8 => exact Ord.lasts_val _
        | 9 => exact Ord.lasts_val _
        | 10 => exact Ord.lasts_val _
        | 11 => exact ⟨fun ρ v O w h b hb => h.2.lt b hb, fun ρ v O w w' h h1 h2 h3 h4 => ⟨h.1, h.2.stands h1 h2 h3 h4⟩⟩
        | 12 => exact ⟨both_range, both_keep⟩
        | 13 => exact ⟨both_range, both_keep⟩
        | 14 => exact Ord.lasts_val _
        | 15 => exact Ord.lasts_val _
        | 16 => exact Ord.lasts_val _
        | 17 => exact Ord.lasts_val _
        | 18 => exact Ord.lasts_val _
        | 19 => exact Ord.lasts_val _
        | n + 20 => exact Ord.lasts_idle
      · refine ⟨fun k b _ hh => ?_, fun k b _ hh => ?_, fun k k' b _ _ hne h1 h2 => ?_⟩
        · match k, hh with
          | 0, hh => exact hh.elim
          | 1, hh => exact hh.elim
          | 2, hh => exact hh.elim
          | 3, hh => exact hh.elim
          | 4, hh => exact hh.elim
          | 5, hh => exact .inl hh
          | 6, hh => exact hh.elim
          | 7, hh => exact hh.elim
          | 8, hh => exact hh.elim
          | 9, hh => exact hh.elim
          | 10, hh => exact hh.elim
          | 11, hh => exact .inr hh
          | 12, hh => exact hh.elim
          | 13, hh => exact hh.elim
          | 14, hh => exact hh.elim
          | 15, hh => exact hh.elim
          | 16, hh => exact hh.elim
          | 17, hh => exact hh.elim
          | 18, hh => exact hh.elim
          | 19, hh => exact hh.elim
          | m + 20, hh => exact hh.elim
        · match k, hh with
          | 0, hh => exact hh.elim
          | 1, hh => exact hh.elim
          | 2, hh => exact hh.elim
          | 3, hh => exact hh.elim
          | 4, hh => exact hh.elim
          | 5, hh => exact HLK.out.lt b hh
          | 6, hh => exact hh.elim
          | 7, hh => exact hh.elim
          | 8, hh => exact hh.elim
          | 9, hh => exact hh.elim
          | 10, hh => exact hh.elim
          | 11, hh => exact HXK.out.lt b hh
          | 12, hh => exact hh.elim
          | 13, hh => exact hh.elim
          | 14, hh => exact hh.elim
          | 15, hh => exact hh.elim
          | 16, hh => exact hh.elim
          | 17, hh => exact hh.elim
          | 18, hh => exact hh.elim
          | 19, hh => exact hh.elim
          | m + 20, hh => exact hh.elim
        · have a : (k = 5 ∧ (F) b) ∨ (k = 11 ∧ (G) b) := by
            match k, h1 with
            | 0, hh => exact hh.elim
            | 1, hh => exact hh.elim
            | 2, hh => exact hh.elim
            | 3, hh => exact hh.elim
            | 4, hh => exact hh.elim
            | 5, hh => exact .inl ⟨rfl, hh⟩
            | 6, hh => exact hh.elim
            | 7, hh => exact hh.elim
            | 8, hh => exact hh.elim
            | 9, hh => exact hh.elim
            | 10, hh => exact hh.elim
            | 11, hh => exact Or.inr (⟨rfl, hh⟩)
            | 12, hh => exact hh.elim
            | 13, hh => exact hh.elim
            | 14, hh => exact hh.elim
            | 15, hh => exact hh.elim
            | 16, hh => exact hh.elim
            | 17, hh => exact hh.elim
            | 18, hh => exact hh.elim
            | 19, hh => exact hh.elim
            | m + 20, hh => exact hh.elim
          have a' : (k' = 5 ∧ (F) b) ∨ (k' = 11 ∧ (G) b) := by
            match k', h2 with
            | 0, hh => exact hh.elim
            | 1, hh => exact hh.elim
            | 2, hh => exact hh.elim
            | 3, hh => exact hh.elim
            | 4, hh => exact hh.elim
            | 5, hh => exact .inl ⟨rfl, hh⟩
            | 6, hh => exact hh.elim
            | 7, hh => exact hh.elim
            | 8, hh => exact hh.elim
            | 9, hh => exact hh.elim
            | 10, hh => exact hh.elim
            | 11, hh => exact Or.inr (⟨rfl, hh⟩)
            | 12, hh => exact hh.elim
            | 13, hh => exact hh.elim
            | 14, hh => exact hh.elim
            | 15, hh => exact hh.elim
            | 16, hh => exact hh.elim
            | 17, hh => exact hh.elim
            | 18, hh => exact hh.elim
            | 19, hh => exact hh.elim
            | m + 20, hh => exact hh.elim
          rcases a with ⟨rfl, a⟩ | ⟨rfl, a⟩ <;> rcases a' with ⟨rfl, a'⟩ | ⟨rfl, a'⟩
          all_goals first | exact absurd rfl hne | (first | exact HFG.out _ a a' | exact HFG.out _ a' a)
      · refine ⟨?_, ?_, ?_, ?_, ?_, ?_, ?_, ?_, ?_, ?_, ?_, ?_, ?_, ?_, ?_, ?_, ?_, ?_, ?_, ?_, trivial⟩
        · refine Ord.owes_plain rfl fun ρ Os wo hs' hb hc' => ?_
          have h7 : ρ (.tmp 7) = .pointer (some ⟨bk, 0, none⟩) := hs'.old' 7 (by kernel_rfl)
          exact Any.ok_move (Ord.post_val rfl h7)
        · refine Ord.owes_plain rfl fun ρ Os wo hs' hb hc' => ?_
          have h1 : ρ (.tmp 1) = .slice (some ⟨b, off, none⟩) l.length c := hs'.old' 1 (by kernel_rfl)
          exact Any.ok_move (Ord.post_val rfl h1)
        · refine Ord.owes_plain rfl fun ρ Os wo hs' hb hc' => ?_
          have h10 : ρ (.tmp 10) = .int .i64 k := hs'.old' 10 (by kernel_rfl)
          exact Any.ok_move (Ord.post_val rfl h10)
        · refine Ord.owes_plain rfl fun ρ Os wo hs' hb hc' => ?_
          have h57 : ρ (.tmp 57) = .slice (some ⟨b, off, none⟩) l.length c := hs'.val' 57 1 (by kernel_rfl) rfl
          have h58 : ρ (.tmp 58) = .int .i64 k := hs'.val' 58 2 (by kernel_rfl) rfl
          go_simp
          exact Ord.post_val rfl rfl
        · refine Ord.owes_plain rfl fun ρ Os wo hs' hb hc' => ?_
          have h59 : ρ (.tmp 59) = .pointer (some ⟨b, off + k * 4, none⟩) := hs'.val' 59 3 (by kernel_rfl) rfl
          have c0 := (HD.out wo hb.undrew).1
          have c1 := (HD.out wo hb.undrew).2.1
          have c2 := (HD.out wo hb.undrew).2.2.1
          have c3 := (HD.out wo hb.undrew).2.2.2
          go_simp
          exact Ord.post_val rfl rfl
        · refine Ord.owes_plain rfl fun ρ Os wo hs' hb hc' => ?_
          have h56 : ρ (.tmp 56) = .pointer (some ⟨bk, 0, none⟩) := hs'.val' 56 0 (by kernel_rfl) rfl
          have h60 : ρ (.tmp 60) = .agg #[.int .i64 x.kind, .string x.party, .int .i64 x.day, .int .i64 x.amt] := hs'.val' 60 4 (by kernel_rfl) rfl
          have hf := hs'.func 16
          go_simp
          exact (DOP.out wo F (HLK.out.stands (Keep.refl _ _) hb.undrew hb.size hs'.here)).mono fun e w' ⟨he, hk', F', hl', hF'⟩ => ⟨_, he, Ord.post_turn ⟨rfl, hl'⟩ hk' hF'⟩
        · refine Ord.owes_plain rfl fun ρ Os wo hs' hb hc' => ?_
          have h9 : ρ (.tmp 9) = .pointer (some ⟨bx, 0, none⟩) := hs'.old' 9 (by kernel_rfl)
          exact Any.ok_move (Ord.post_val rfl h9)
        · refine Ord.owes_plain rfl fun ρ Os wo hs' hb hc' => ?_
          have h1 : ρ (.tmp 1) = .slice (some ⟨b, off, none⟩) l.length c := hs'.old' 1 (by kernel_rfl)
          exact Any.ok_move (Ord.post_val rfl h1)
        · refine Ord.owes_plain rfl fun ρ Os wo hs' hb hc' => ?_
          have h10 : ρ (.tmp 10) = .int .i64 k := hs'.old' 10 (by kernel_rfl)
          exact Any.ok_move (Ord.post_val rfl h10)
        · refine Ord.owes_plain rfl fun ρ Os wo hs' hb hc' => ?_
          have h63 : ρ (.tmp 63) = .slice (some ⟨b, off, none⟩) l.length c := hs'.val' 63 7 (by kernel_rfl) rfl
          have h64 : ρ (.tmp 64) = .int .i64 k := hs'.val' 64 8 (by kernel_rfl) rfl
          go_simp
          exact Ord.post_val rfl rfl
        · refine Ord.owes_plain rfl fun ρ Os wo hs' hb hc' => ?_
          have h65 : ρ (.tmp 65) = .pointer (some ⟨b, off + k * 4, none⟩) := hs'.val' 65 9 (by kernel_rfl) rfl
          have c0 := (HD.out wo hb.undrew).1
          have c1 := (HD.out wo hb.undrew).2.1
          have c2 := (HD.out wo hb.undrew).2.2.1
          have c3 := (HD.out wo hb.undrew).2.2.2
          go_simp
          exact Ord.post_val rfl rfl
        · refine Ord.owes_plain rfl fun ρ Os wo hs' hb hc' => ?_
          have h62 : ρ (.tmp 62) = .pointer (some ⟨bx, 0, none⟩) := hs'.val' 62 6 (by kernel_rfl) rfl
          have h66 : ρ (.tmp 66) = .agg #[.int .i64 x.kind, .string x.party, .int .i64 x.day, .int .i64 x.amt] := hs'.val' 66 10 (by kernel_rfl) rfl
          have hf := hs'.func 28
          go_simp
          exact (DOR.out wo G (HXK.out.stands (Keep.refl _ _) hb.undrew hb.size hs'.here)).mono fun e w' ⟨he, hk', F', hl', hF'⟩ => ⟨_, he, Ord.post_turn ⟨rfl, hl'⟩ hk' hF'⟩
        · refine Ord.owes_plain rfl fun ρ Os wo hs' hb hc' => ?_
          obtain ⟨ρ1, e1, l5⟩ := hs'.new' 61 5 (by kernel_rfl)
          obtain ⟨ρ2, e2, l11⟩ := hs'.new' 67 11 (by kernel_rfl)
          have hap := hs'.tookApart 5 11 (List.mem_cons_self : 5 ∈ [5, 11]) (List.mem_cons_of_mem _ List.mem_cons_self : 11 ∈ [5, 11]) (by decide)
          go_simp
          exact ⟨fun b => Os 5 b ∨ Os 11 b, ⟨rfl, Os 5, Os 11, l5, l11, hap, fun b => Iff.rfl⟩, ⟨rfl, rfl, rfl⟩, Nat.le_refl _, fun _ _ _ _ => rfl, fun b hb => .inl (hb.elim (fun h => ⟨5, (List.mem_cons_self : 5 ∈ [5, 11]), h⟩) (fun h => ⟨11, (List.mem_cons_of_mem _ List.mem_cons_self : 11 ∈ [5, 11]), h⟩))⟩
        · refine Ord.owes_plain rfl fun ρ Os wo hs' hb hc' => ?_
          obtain ⟨ρ1, e1, k12⟩ := hs'.new' 68 12 (by kernel_rfl)
          exact Any.ok_move ⟨Os 12, ⟨e1, k12⟩, ⟨rfl, rfl, rfl⟩, Nat.le_refl _, fun _ _ _ _ => rfl, fun b hb => .inl ⟨12, (List.mem_cons_self : 12 ∈ [12]), hb⟩⟩
        · refine Ord.owes_onk rfl rfl (by kernel_rfl) (fun _ _ _ _ h => h.1) fun ρ Os wo hs' hb hc' => ?_
          have h7 : ρ (.tmp 7) = .pointer (some ⟨bk, 0, none⟩) := hs'.old' 7 (by kernel_rfl)
          exact Any.ok_move (Ord.post_val rfl h7)
        · refine Ord.owes_onk rfl rfl (by kernel_rfl) (fun _ _ _ _ h => h.1) fun ρ Os wo hs' hb hc' => ?_
          have h9 : ρ (.tmp 9) = .pointer (some ⟨bx, 0, none⟩) := hs'.old' 9 (by kernel_rfl)
          exact Any.ok_move (Ord.post_val rfl h9)
        · refine Ord.owes_onk rfl rfl (by kernel_rfl) (fun _ _ _ _ h => h.1) fun ρ Os wo hs' hb hc' => ?_
          have h2 : ρ (.tmp 2) = .string party := hs'.old' 2 (by kernel_rfl)
          exact Any.ok_move (Ord.post_val rfl h2)
        · refine Ord.owes_onk rfl rfl (by kernel_rfl) (fun _ _ _ _ h => h.1) fun ρ Os wo hs' hb hc' => ?_
          have h70 : ρ (.tmp 70) = .pointer (some ⟨bk, 0, none⟩) := hs'.val' 70 14 (by kernel_rfl) rfl
          have h71 : ρ (.tmp 71) = .pointer (some ⟨bx, 0, none⟩) := hs'.val' 71 15 (by kernel_rfl) rfl
          have h72 : ρ (.tmp 72) = .string party := hs'.val' 72 16 (by kernel_rfl) rfl
          have hf := hs'.func 29
          obtain ⟨_, -, F', G', a1, a2, -, -⟩ := hs'.new' 69 13 (by kernel_rfl)
          go_simp
          exact (HEV.out wo F' G' a1 a2).mono fun e w' ⟨he, hb'⟩ => ⟨_, he, Ord.post_vals rfl rfl hb'⟩
        · refine Ord.owes_onk rfl rfl (by kernel_rfl) (fun _ _ _ _ h => h.1) fun ρ Os wo hs' hb hc' => ?_
          have h73 : ρ (.tmp 73) = .bool true := hs'.val' 73 17 (by kernel_rfl) rfl
          go_simp
          exact Ord.post_val rfl rfl
        · refine Ord.owes_plain rfl fun ρ Os wo hs' hb hc' => ?_
          have h74 : ρ (.tmp 74) = .bool false := hs'.val' 74 18 (by kernel_rfl) rfl
          obtain ⟨_, e1, -⟩ := hs'.new' 69 13 (by kernel_rfl)
          exact Any.ok_pick (b := false) e1 (Ord.post_val rfl h74)
      · intro vals Os ρs w3 hk hkn hln hap hbd
        have h19 := (hkn 19 (by kernel_rfl)).1
        obtain ⟨e13, F', G', a1, a2, a3, a4⟩ := hkn 13 (by kernel_rfl)
        have hb13 := hbd 13 (by kernel_rfl)
        have HP2 : Hid (Pair w0 w3 bk bx l1 x1) := Lib.hid ⟨F', G', a1, a2, fun b hb => (hb13 b ((a4 b).2 (.inl hb))).elim (fun h => Nat.le_trans HBK.out.size h) (fun h => h.elim (HF.out b) (HG.out b)), fun b hb => (hb13 b ((a4 b).2 (.inr hb))).elim (fun h => Nat.le_trans HBK.out.size h) (fun h => h.elim (HF.out b) (HG.out b)), a3, hk.behind HBK.out HBK.out.size (fun b hlt h => by have := h.elim (HF.out b) (HG.out b); omega)⟩
        clear hkn hln hap hbd e13 a1 a2 a3 a4 hb13
        simp only [Any.putAll]
        go_frame
        simp only [Nat.zero_add, Nat.reduceAdd]
        rw [h19]
        go_wp2_with fail
        go_roundw
        case rel => exact ⟨k + 1, by omega, by go_num, by rw [HT.out, HTX.out]; exact HP2.out⟩
        case measure => (simp [intOf]) <;> omega
    · have hkl : k = l.length := by omega
      have HPL : Hid (Pair w0 wr bk bx (lifeOf t.cr l) (lifeOfR t.cr l)) := Lib.hid (by have := HPK.out; rwa [List.take_of_length_le (by omega)] at this)
      have HSM : Hid (Sim (lifeOf t.cr l) (lifeOfR t.cr l)) := Lib.hid (by have := sim_life t.cr l l.length; rwa [List.take_of_length_le (Nat.le_refl _)] at this)
      have HGD : Hid ((lifeOf t.cr l).good t.cr) := Lib.hid (lifeOf_good t.cr l)
      have HLN : Hid ((lifeOf t.cr l).evs.length ≤ 4000) := Lib.hid (by have := lifeOf_len t.cr l; have := HL40.out; omega)
      obtain ⟨F, G, hlv, hxv, hF, hG, hFG, hbel⟩ := HPL.out
      have HEV := Lib.hid (even_any bk bx t.cr _ _ F G party wr hlv hxv HLV.out HGD.out HSM.out HLN.out)
      have HBW := Lib.hid hbel
      clear hkl hp hlv hxv hF hG hFG hbel
      go_wp2_with (first | ((with_reducible refine HEV.out.mono ?_); rintro e w4 ⟨rfl, hb4⟩) | fail)
      go_ret
      exact retB rfl (HB0.out.trans ((HBW.out.trans (hb4.mono HBW.out.size)).mono HB0.out.size))

theorem new_dead (c : Cr) (w : World) (h : c.lives = false) : Calls Try.prog 15 #[.agg c.cells] w (Ret w (.tuple #[.pointer none, .int .i64 1])) := by
  refine (new_any c w).mono ?_
  rintro e w' ⟨hb, h1 | h1⟩
  · exact ⟨h1.2, hb⟩
  · rw [h] at h1; exact absurd h1.1 (by simp)
set_option maxHeartbeats 8000000 in
theorem walk_dead (w : World) (t : Tm) (l : List Ev) (v : Value) (party : ByteArray) (hs : Sl w 4 v (l.map Ev.row)) (hlo : t.long = false) (hhe : heavy l 40 = false) (hpa : party.size ≤ 100) (hli : t.cr.lives = false) :
    Calls Try.prog 8 #[.agg t.cells, v, .string party] w (RetB w true) := by
  obtain ⟨a, c, rfl⟩ : ∃ a c, v = .slice a l.length c := by simpa using hs.shape
  obtain ⟨w0, hw0⟩ : ∃ x, x = w.alloc (.cells t.cells 23) := ⟨_, rfl⟩
  have HX : Hid (w0.heap[w.heap.size]? = some (.cells t.cells 23 (0, 0))) := Lib.hid (hw0 ▸ heap_alloc_new _ _)
  have HB0 : Hid (Below w.heap.size w w0) := Lib.hid (hw0 ▸ one_below _ _)
  have HS := Lib.hid (hs.below HB0.out (Nat.le_refl _))
  have LO := Lib.hid (fun W => long_any t W)
  have HE := Lib.hid (fun (W : World) (h : Sl W 4 (.slice a l.length c) (l.map Ev.row)) => heavy_any l 40 _ W h)
  have CR := Lib.hid (fun W => credit_any t W)
  have MA := Lib.hid (fun W => refMay34_any t W hlo)
  have NW := Lib.hid (fun W => new_dead t.cr W hli)
  have tp : decide ((100 : Int) < (party.size : Int)) = false := decide_eq_false (by omega)
  rw [hlo] at LO
  rw [hhe] at HE
  rw [hli] at MA
  clear hs hlo hhe hli hpa
  go_enter Try.func8, Try.ntmps8
  go_wp2_with fail
  rw [← hw0]
  clear hw0
  go_wp2_with (first
    | ((with_reducible refine (awake_any _).mono ?_); rintro e w1 ⟨rfl, hb1⟩; have HX1 := Lib.hid (blk hb1 (lt_blk HX.out) HX.out); have HS1 := Lib.hid (HS.out.below hb1 (Nat.le_refl _)); have HB1 := Lib.hid hb1; clear hb1)
    | (refine load_tm (.tmp 3) w.heap.size t rfl rfl HX1.out ?_)
    | (refine load_tm (.tmp 3) w.heap.size t rfl rfl HX6.out ?_)
    | ((with_reducible refine (LO.out _).mono ?_); rintro e w2 ⟨rfl, hb2⟩; have HX1 := Lib.hid (blk hb2 (lt_blk HX1.out) HX1.out); have HS1 := Lib.hid (HS1.out.below hb2 (Nat.le_refl _)); have HB1 := Lib.hid (below_then HB1.out hb2); clear hb2)
    | ((with_reducible refine (HE.out _ HS1.out).mono ?_); rintro e w3 ⟨rfl, hb3⟩; have HX1 := Lib.hid (blk hb3 (lt_blk HX1.out) HX1.out); have HS1 := Lib.hid (HS1.out.below hb3 (Nat.le_refl _)); have HB1 := Lib.hid (below_then HB1.out hb3); clear hb3)
    | ((with_reducible refine (CR.out _).mono ?_); rintro e w4 ⟨rfl, hb4⟩; have HX1 := Lib.hid (blk hb4 (lt_blk HX1.out) HX1.out); have HS1 := Lib.hid (HS1.out.below hb4 (Nat.le_refl _)); have HB1 := Lib.hid (below_then HB1.out hb4); clear hb4)
    | ((with_reducible refine (NW.out _).mono ?_); rintro e w6 ⟨rfl, hb6⟩; have HX1 := Lib.hid (blk hb6 (lt_blk HX1.out) HX1.out); have HS1 := Lib.hid (HS1.out.below hb6 (Nat.le_refl _)); have HB1 := Lib.hid (below_then HB1.out hb6); clear hb6)
    | ((with_reducible refine (MA.out _).mono ?_); rintro e w8 ⟨rfl, hb8⟩; have HB1 := Lib.hid (below_then HB1.out hb8); clear hb8)
    | fail)
  go_ret
  exact retB rfl (HB0.out.trans (HB1.out.mono HB0.out.size))

set_option maxHeartbeats 4000000 in
theorem walk_no (w : World) (t : Tm) (l : List Ev) (v : Value) (party : ByteArray) (hs : Sl w 4 v (l.map Ev.row)) (h : (t.long || (heavy l 40 || decide (100 < party.size))) = true) :
    Calls Try.prog 8 #[.agg t.cells, v, .string party] w (RetB w true) := by
  have HX : Hid ((w.alloc (.cells t.cells 23)).heap[w.heap.size]? = some (.cells t.cells 23 (0, 0))) := Lib.hid (heap_alloc_new _ _)
  have HS := Lib.hid (hs.below (one_below w (.cells t.cells 23)) (Nat.le_refl _))
  have LO := Lib.hid (fun W => long_any t W)
  have HE := Lib.hid (fun (W : World) (h : Sl W 4 v (l.map Ev.row)) => heavy_any l 40 v W h)
  have CR := Lib.hid (fun W => credit_any t W)
  clear hs
  cases hlo : t.long
  · cases hhe : heavy l 40
    · have h' : 100 < party.size := by simpa [hlo, hhe] using h
      have tp : decide ((100 : Int) < (party.size : Int)) = true := decide_eq_true (by omega)
      clear h'
      rw [hlo] at LO
      rw [hhe] at HE
      clear h hlo hhe
      go_enter Try.func8, Try.ntmps8
      go_wp2_with (first
        | ((with_reducible refine (awake_any _).mono ?_); rintro e w1 ⟨rfl, hb1⟩; have HX1 := Lib.hid (blk hb1 (lt_blk HX.out) HX.out); have HS1 := Lib.hid (HS.out.below hb1 (Nat.le_refl _)); have HB1 := Lib.hid (below_new hb1); clear hb1)
        | (refine load_tm (.tmp 3) w.heap.size t rfl rfl HX1.out ?_)
        | ((with_reducible refine (LO.out _).mono ?_); rintro e w2 ⟨rfl, hb2⟩; have HX1 := Lib.hid (blk hb2 (lt_blk HX1.out) HX1.out); have HS1 := Lib.hid (HS1.out.below hb2 (Nat.le_refl _)); have HB1 := Lib.hid (below_then HB1.out hb2); clear hb2)
        | ((with_reducible refine (HE.out _ HS1.out).mono ?_); rintro e w3 ⟨rfl, hb3⟩; have HX1 := Lib.hid (blk hb3 (lt_blk HX1.out) HX1.out); have HB1 := Lib.hid (below_then HB1.out hb3); clear hb3)
        | fail)
      go_ret
      exact retB rfl HB1.out
    · rw [hlo] at LO
      rw [hhe] at HE
      clear h hlo hhe
      go_enter Try.func8, Try.ntmps8
      go_wp2_with (first
        | ((with_reducible refine (awake_any _).mono ?_); rintro e w1 ⟨rfl, hb1⟩; have HX1 := Lib.hid (blk hb1 (lt_blk HX.out) HX.out); have HS1 := Lib.hid (HS.out.below hb1 (Nat.le_refl _)); have HB1 := Lib.hid (below_new hb1); clear hb1)
        | (refine load_tm (.tmp 3) w.heap.size t rfl rfl HX1.out ?_)
        | ((with_reducible refine (LO.out _).mono ?_); rintro e w2 ⟨rfl, hb2⟩; have HX1 := Lib.hid (blk hb2 (lt_blk HX1.out) HX1.out); have HS1 := Lib.hid (HS1.out.below hb2 (Nat.le_refl _)); have HB1 := Lib.hid (below_then HB1.out hb2); clear hb2)
        | ((with_reducible refine (HE.out _ HS1.out).mono ?_); rintro e w3 ⟨rfl, hb3⟩; have HX1 := Lib.hid (blk hb3 (lt_blk HX1.out) HX1.out); have HB1 := Lib.hid (below_then HB1.out hb3); clear hb3)
        | fail)
      go_ret
      exact retB rfl HB1.out
  · rw [hlo] at LO
    clear h hlo
    go_enter Try.func8, Try.ntmps8
    go_wp2_with (first
      | ((with_reducible refine (awake_any _).mono ?_); rintro e w1 ⟨rfl, hb1⟩; have HX1 := Lib.hid (blk hb1 (lt_blk HX.out) HX.out); have HS1 := Lib.hid (HS.out.below hb1 (Nat.le_refl _)); have HB1 := Lib.hid (below_new hb1); clear hb1)
      | (refine load_tm (.tmp 3) w.heap.size t rfl rfl HX1.out ?_)
      | ((with_reducible refine (LO.out _).mono ?_); rintro e w2 ⟨rfl, hb2⟩; have HX1 := Lib.hid (blk hb2 (lt_blk HX1.out) HX1.out); have HS1 := Lib.hid (HS1.out.below hb2 (Nat.le_refl _)); have HB1 := Lib.hid (below_then HB1.out hb2); clear hb2)
      | fail)
    go_ret
    exact retB rfl HB1.out


theorem walk (w : World) (t : Tm) (_ht : t.fit) (l : List Ev) (v : Value) (hs : Sl w 4 v (l.map Ev.row)) (hf : ∀ e ∈ l, e.fit) (party : ByteArray) (_ : party.size ≤ maxLen) : Calls Try.prog 8 #[.agg t.cells, v, .string party] w (RetB w true) := by
  by_cases hp : party.size ≤ 100
  · cases hlo : t.long <;> cases hhe : heavy l 40
    case false.false =>
      cases hli : t.cr.lives
      · exact walk_dead w t l v party hs hlo hhe hp hli
      · exact walk_yes w t l v party hs hf hlo hhe hp hli
    all_goals exact walk_no w t l v party hs (by simp [hlo, hhe])
  · exact walk_no w t l v party hs (by simp [show 100 < party.size by omega])

theorem lifted (os : Os) (started : os.Started) (H : Type) (enc : TypeId × Value → H) :
    ReturnsInHanded {} Try.checked os 8 .any (Rows.undertakeRunsSpec.pre6 enc Try.prog Try.f8 Rows.undertakeRunsRow.domain false) (Rows.undertakeRunsSpec.post enc Try.prog Try.f8 false true false false) := by
  refine law_lifted os started (by kernel_rfl) Try.func8
    (ChangeSpec.witness6 (enc := enc) (C := Try.checked) false ⟨#[], #[.agg #[.string ⟨#[]⟩, .string ⟨#[]⟩, .string ⟨#[]⟩, .string ⟨#[]⟩, .int .i64 0, .int .i64 0, .int .i64 0, .int .i64 0, .bool false], .slice none 0 0, .string ⟨#[]⟩], []⟩ 8 (by kernel_rfl) (by kernel_rfl) (by kernel_rfl) (by kernel_rfl))
    (by kernel_rfl) rfl rfl ?_ ?_
  · intro vs ds W p hA
    rw [Try.params8] at hA
    obtain ⟨v0, vs0, d0, ds0, p0, q0, rfl, rfl, rfl, h0, r0⟩ := trodAll_cons hA
    obtain ⟨v1, vs1, d1, ds1, p1, q1, rfl, rfl, rfl, h1, r1⟩ := trodAll_cons r0
    obtain ⟨v2, vs2, d2, ds2, p2, q2, rfl, rfl, rfl, h2, r2⟩ := trodAll_cons r1
    obtain ⟨rfl, rfl, rfl⟩ := trodAll_nil r2
    rfl
  · intro W base args ds p hval hA
    rw [Try.params8] at hA hval
    obtain ⟨v0, vs0, d0, ds0, p0, q0, hargs, rfl, rfl, h0, r0⟩ := trodAll_cons hA
    obtain ⟨v1, vs1, d1, ds1, p1, q1, rfl, rfl, rfl, h1, r1⟩ := trodAll_cons r0
    obtain ⟨v2, vs2, d2, ds2, p2, q2, rfl, rfl, rfl, h2, r2⟩ := trodAll_cons r1
    obtain ⟨rfl, rfl, rfl⟩ := trodAll_nil r2
    obtain rfl : args = #[v0, v1, v2] := by cases args; simp_all
    obtain ⟨t0, rfl, w0⟩ := open_terms (hval 0 23 v0 rfl rfl) h0
    obtain ⟨l1, hs1, hf1⟩ := open_evs (hval 1 24 v1 rfl rfl) h1
    obtain ⟨a2, rfl, rfl, rfl, w2⟩ := Go.ChangeMaps.open_string Try.underlying9 (hval 2 9 v2 rfl rfl) h2
    exact walk W t0 w0 l1 v1 hs1 hf1 a2 w2

theorem over : Rows.undertakeRunsRow.holds Try.pinned (OpenSpec.ofChange Rows.undertakeRunsSpec) :=
  OpenClaim.holds_of_wide 8 Try.f8 rfl rfl rfl rfl rfl rfl rfl ⟨rfl, rfl, rfl, rfl, rfl⟩ rfl rfl rfl rfl rfl (by kernel_rfl) Try.func8 (by kernel_rfl)
    (of_decide_eq_true (by kernel_rfl)) (by unfold Func.isWrapper; rw [if_neg (by decide +kernel)]; exact ⟨rfl, rfl⟩)
    (fun os started H enc _ => lifted os started H enc)

/-- The statement. -/
theorem proved : Rows.UndertakeRunsSaid := over
#print axioms proved
end Go.Proofs.Ytjabjfkfoenmlaa.undertakeRuns
