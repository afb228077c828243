/- The program's chain: Hand. -/
import Derived.Test.YtmjblefjaccocaaWalkB17
namespace Go.Proofs.Ytmjblefjaccocaa.Sc
open Go Go.RowKit Go.ChangeShapes Go.WideShapes Go.ChangeAt Mp

theorem handE_of {own : List Hd} {h : Hd} {a b : Bool} {k : Int} (h1 : [h.box, h.frm, h.to, h.place].all nameOk = a) (h2 : (h.frm.toList == h.to.toList) = b)
    (hk : k = if a = true ∧ b = false then (if dayOk h.day = true then (match own.getLast? with | none => 4 | some last => lastE h own.length last) else 3) else 1) : k = handE own h := by
  have e : [h.box, h.frm, h.to, h.place].all nameOk = (nameOk h.box && (nameOk h.frm && (nameOk h.to && nameOk h.place))) := by simp
  rw [e] at h1
  rw [str_beq] at h2
  subst h1 h2 hk
  unfold handE
  cases nameOk h.box <;> cases nameOk h.frm <;> cases nameOk h.to <;> cases nameOk h.place <;> by_cases hft : h.frm = h.to <;> simp [hft]
  all_goals cases own.getLast? <;> rfl

theorem row_ne_map {w : World} {e : TypeId} {sz n B : Nat} {v : Value} {xs : List Value} {bm : Nat} {l : Ents} (h : w.ownsRow B e sz v n xs) (hm : MapAt w bm l) : v.ownBlock ≠ some bm := by
  intro hb
  obtain ⟨es, clock, hm', _⟩ := hm
  rcases h.2 with ⟨rfl, _⟩ | ⟨g, cap, cur, rfl, _, hh, _⟩
  · cases hb
  · obtain rfl : g = bm := Option.some.inj hb
    rw [hm'] at hh
    cases hh
theorem hand_yes {w W W2 : World} {F : Nat → Prop} {bp bm : Nat} {l : Ents} {done L : List Hd} {x h : Hd} {v' : Value} {m : Nat} {n E : Int} (hb : Below w.heap.size w W) (hc : Ch W F bp bm l done)
    (hw : ownOf done h.box = L ++ [x] ∧ L.length = m) (hk : Keep (fun b => b = bm ∨ AtBox l h.box b) W W2)
    (hr : W2.ownsRow 0 41 5 v' (m + 1 + 1) (hdCells (L ++ [x] ++ [h]))) (hm : MapAt W2 bm (mput l h.box v')) (hbd : ∀ g, v'.ownBlock = some g → W.heap.size ≤ g ∨ (g = bm ∨ AtBox l h.box g))
    (hn : n = E ∧ n = 0) : After w F E (.pointer (some ⟨bp, 0, none⟩)) (doneB E done h) (.returned (.int .i64 n)) W2 := by
  obtain ⟨rfl, h0⟩ := hn
  obtain ⟨hw1, rfl⟩ := hw
  rw [doneB, if_pos h0]
  have hgx : ∃ g, v'.ownBlock = some g := by
    rcases hr.2 with ⟨rfl, h1⟩ | ⟨g, cap, cur, rfl, _⟩
    · omega
    · exact ⟨g, rfl⟩
  obtain ⟨g, hvg⟩ := hgx
  have hgs : W.heap.size ≤ g ∨ AtBox l h.box g := by
    rcases hbd g hvg with h1 | h1 | h1
    · exact .inl h1
    · subst h1; exact absurd hvg (row_ne_map hr hm)
    · exact .inr h1
  obtain ⟨k, F', h1, h2⟩ := ch_put (h := h) (v' := v') hc hk (by rw [hw1]; simpa using hr) ⟨g, hvg, hgs⟩ hm
  exact ⟨rfl, (Keep.of_below (F := F) hb).trans k (fun _ _ h => h), F', ⟨bp, bm, _, rfl, h1⟩, fun b hF => (h2 b hF).imp id (fun h => Nat.le_trans hb.size h)⟩

set_option maxRecDepth 5000 in
set_option maxHeartbeats 4000000 in
theorem hand_any (h : Hd) (p : Value) (done : List Hd) (F : Nat → Prop) (w : World) (hc : Chain w F p done) (hlen : done.length ≤ 4000) :
    Calls Try.prog 23 #[p, .agg h.cells] w (After w F (handE (ownOf done h.box) h) p (doneB (handE (ownOf done h.box) h) done h)) := by
  obtain ⟨bp, bm, l, rfl, hch⟩ := hc
  obtain ⟨box, frm, to, place, d⟩ := h
  unfold Hd.cells
  have HCW := Lib.hid hch
  have HNO : Hid ((ownOf done box).length ≤ 4000) := Lib.hid (by have := ownOf_len done box; omega)
  have HC : Hid (Ch ((w.alloc (.cells #[.string box, .string frm, .string to, .string place, .int .i64 d] 41)).alloc (.cells #[.string box, .string frm, .string to, .string place] 9)) F bp bm l done) := Lib.hid ((hch.below (one_below _ _)).below (one_below _ _))
  have HBEL : Hid (Below w.heap.size w ((w.alloc (.cells #[.string box, .string frm, .string to, .string place, .int .i64 d] 41)).alloc (.cells #[.string box, .string frm, .string to, .string place] 9))) := Lib.hid (((Below.refl _ _).alloc (Nat.le_refl _) _).alloc (by simp) _)
  have HX : Hid (((w.alloc (.cells #[.string box, .string frm, .string to, .string place, .int .i64 d] 41)).alloc (.cells #[.string box, .string frm, .string to, .string place] 9)).heap[w.heap.size]? = some (.cells #[.string box, .string frm, .string to, .string place, .int .i64 d] 41 (0, 0))) := Lib.hid (blk (one_below _ _) (by simp) (heap_alloc_new _ _))
  have HSN : Hid (Sl ((w.alloc (.cells #[.string box, .string frm, .string to, .string place, .int .i64 d] 41)).alloc (.cells #[.string box, .string frm, .string to, .string place] 9)) 1 (.slice (some ⟨w.heap.size + 1, 0, none⟩) 4 4) ([box, frm, to, place].map stRow)) := Lib.hid (by have := sl_strs (w.alloc (.cells #[.string box, .string frm, .string to, .string place, .int .i64 d] 41)) [box, frm, to, place] 4 rfl (by simp [maxLen]); simpa using this)
  clear hch hlen
  generalize hE : handE (ownOf done box) ⟨box, frm, to, place, d⟩ = E
  have HE := Lib.hid hE
  clear hE
  cases hnm : [box, frm, to, place].all nameOk <;> cases heq : (frm.toList == to.toList) <;> cases hdy : dayOk d
  case true.false.true =>
    have HNM := Lib.hid hnm
    have HEQ := Lib.hid heq
    have HDY := Lib.hid hdy
    rcases mget_has HCW.out box with ⟨v, hg, hh⟩ | ⟨hg, hh⟩
    · obtain ⟨L, x, hw⟩ : ∃ L x, ownOf done box = L ++ [x] := by
        rcases List.eq_nil_or_concat (ownOf done box) with h | ⟨L, z, h⟩
        · have := hh.2.1; rw [h] at this; simp at this
        · exact ⟨L, z, by rw [h, List.concat_eq_append]⟩
      obtain ⟨m, hm⟩ : ∃ m, L.length = m := ⟨_, rfl⟩
      have hm5 : (m : Int) ≤ 4000 := by have h1 := HNO.out; rw [hw] at h1; simp at h1; omega
      have t9 : decide (4096 ≤ m + 1) = false := decide_eq_false (by omega)
      have t10 : decide ((4096 : Int) ≤ (m : Int) + 1) = false := decide_eq_false (by omega)
      rw [hw] at hh
      have hlen : (L ++ [x]).length = m + 1 := by simp [hm]
      obtain ⟨b1, off1, cv, rfl⟩ : ∃ b1 off1 cv, v = .slice (some ⟨b1, off1, none⟩) (m + 1) cv := by
        obtain ⟨h1, h2, g, h3, h4⟩ := hh
        rw [hlen] at h1
        rcases h1.2 with ⟨rfl, h5⟩ | ⟨g2, cap, cur, rfl, _⟩
        · omega
        · exact ⟨g2, 0, cap, rfl⟩
      have HW : Hid (ownOf done box = L ++ [x] ∧ L.length = m) := Lib.hid ⟨hw, hm⟩
      have HG := Lib.hid hg
      clear hw hm hg hh hlen
      obtain ⟨i0, hi, hz, hsz, hby⟩ := info_parts infoHd
      have HI := Lib.hid (And.intro hi (And.intro hz (And.intro hsz hby)))
      clear hi hz hsz hby
      have HL : Hid (m + 1 + 1 ≤ maxLen ∧ (m + 1 + 1) * 72 ≤ 140737488355328) := Lib.hid (by simp only [maxLen]; omega)
      have HE2 : Hid (E = lastE ⟨box, frm, to, place, d⟩ (m + 1) x) := Lib.hid (by
        rw [← HE.out, ← handE_of (h := ⟨box, frm, to, place, d⟩) (own := ownOf done box) HNM.out HEQ.out rfl, HW.out.1]
        simp [HDY.out, HW.out.2])
      by_cases e1 : x.to = frm
      all_goals
        first | have t1 := str_yes e1 | have t1 := str_no e1
        have E1 := Lib.hid e1
        clear e1
        by_cases e2 : d < x.day
      all_goals
        have E2 := Lib.hid e2
        go_enter Try.func23, Try.ntmps23
        go_wp2_with (first
          | ((with_reducible refine (areNames_any _ _ _ HSN.out).mono ?_); rintro e w1 ⟨rfl, hb1⟩; have HX := Lib.hid (blk hb1 (lt_blk HX.out) HX.out); obtain ⟨x0, x1, x2, x3, x4⟩ := hd_cells HX.out; have HC := Lib.hid (HC.out.below hb1); have HBEL := Lib.hid (HBEL.out.trans (hb1.mono HBEL.out.size)); have c0 := cell_blk HC.out.ptr 0; simp only [List.getElem?_toArray, List.getElem?_cons_zero] at c0; clear hb1)
          | ((with_reducible refine (isDay_any _ _).mono ?_); rintro e w1 ⟨rfl, hb1⟩; have HX := Lib.hid (blk hb1 (lt_blk HX.out) HX.out); obtain ⟨x0, x1, x2, x3, x4⟩ := hd_cells HX.out; have HC := Lib.hid (HC.out.below hb1); have HBEL := Lib.hid (HBEL.out.trans (hb1.mono HBEL.out.size)); have c0 := cell_blk HC.out.ptr 0; simp only [List.getElem?_toArray, List.getElem?_cons_zero] at c0; clear hb1)
          | fail)
        have q37 : ∀ n, (Instr.lookup 60 (.map (some bm)) (.string box) true).run Try.prog (w1.drewN n) = .ok (.tuple #[.slice (some ⟨b1, off1, none⟩) (m + 1) cv, .bool true]) (w1.drewN n) := fun n => by
          have := Mp.run_lookup Try.underlying60 Try.underlying9 (zeroHs _) (HC.out.map.same (w' := w1.drewN n) rfl) box true
          rw [HG.out] at this
          exact this
        go_quiet (fail)
        clear q37
        obtain ⟨W, hW⟩ : ∃ W, W = w1.drewN nq := ⟨_, rfl⟩
        have hWb : Below w1.heap.size w1 W := hW ▸ below_drewN (Below.refl _ _) nq
        rw [← hW]
        have HC := Lib.hid (HC.out.below hWb)
        have HBEL := Lib.hid (HBEL.out.trans (hWb.mono HBEL.out.size))
        have HX := Lib.hid (blk hWb (lt_blk HX.out) HX.out)
        obtain ⟨x0, x1, x2, x3, x4⟩ := hd_cells HX.out
        have c0 := cell_blk HC.out.ptr 0
        simp only [List.getElem?_toArray, List.getElem?_cons_zero] at c0
        clear hW hWb
        have HHI : Hid (Hist W F (.slice (some ⟨b1, off1, none⟩) (m + 1) cv) (L ++ [x])) := Lib.hid (by have := HC.out.hist box _ (mem_of_mget HG.out); rw [HW.out.1] at this; exact this)
        obtain ⟨b2, off2, hq, -, hlt2, hc2⟩ := (own_hands HHI.out.1 rfl).at (i := m) (by simp [HW.out.2])
        obtain ⟨rfl, rfl⟩ : b1 = b2 ∧ off1 = off2 := by simpa using hq
        have hr2 := hc2 m x.row (by simp [← HW.out.2])
        have q0 : W.cell? ⟨b1, off1 + m * 5, none⟩ = some (.string x.box) := hr2 0 _ rfl
        have q1 : W.cell? ⟨b1, off1 + m * 5 + 1, none⟩ = some (.string x.frm) := hr2 1 _ rfl
        have q2 : W.cell? ⟨b1, off1 + m * 5 + 2, none⟩ = some (.string x.to) := hr2 2 _ rfl
        have q3 : W.cell? ⟨b1, off1 + m * 5 + 3, none⟩ = some (.string x.place) := hr2 3 _ rfl
        have q4 : W.cell? ⟨b1, off1 + m * 5 + 4, none⟩ = some (.int .i64 x.day) := hr2 4 _ rfl
        have hlx := lt_blk HX.out
        have hlb : b1 < W.heap.size := hlt2
        have hlp := lt_blk HC.out.ptr
        clear hr2 hc2 hlt2 hq
        go_wp2_with fail
        have HBELD := Lib.hid (HBEL.out.trans ((one_below W (.cells #[.string x.box, .string x.frm, .string x.to, .string x.place, .int .i64 x.day] 41)).mono HBEL.out.size))
        first
          | (go_ret
             exact begin_no HCW.out HBELD.out ⟨by
               rw [HE2.out]
               show (_ : Int) = if ¬ x.to = frm then 8 else if d < x.day then 6 else if 4096 ≤ m + 1 then 7 else 0
               first
                 | rw [if_pos E1.out]
                 | rw [if_neg (fun h => h E1.out), if_pos E2.out], by decide⟩)
          | skip
      have HE0 : Hid (0 = E) := Lib.hid (by
        rw [HE2.out]
        show (_ : Int) = if ¬ x.to = frm then 8 else if d < x.day then 6 else if 4096 ≤ m + 1 then 7 else 0
        rw [if_neg (fun h => h E1.out), if_neg (by have := E2.out; omega), if_neg (by omega)])
      have HCD := Lib.hid (HC.out.below (one_below W (.cells #[.string x.box, .string x.frm, .string x.to, .string x.place, .int .i64 x.day] 41)))
      have HROWN := Lib.hid (ownsRow_below HHI.out.1 (one_below W (.cells #[.string x.box, .string x.frm, .string x.to, .string x.place, .int .i64 x.day] 41)))
      rw [show (L ++ [x]).length = m + 1 from by simp [HW.out.2]] at HROWN
      have HXD := Lib.hid (blk (one_below W (.cells #[.string x.box, .string x.frm, .string x.to, .string x.place, .int .i64 x.day] 41)) (lt_blk HX.out) HX.out)
      have C0 : Hid ((W.alloc (.cells #[.string x.box, .string x.frm, .string x.to, .string x.place, .int .i64 x.day] 41)).cell? ⟨bp, 0, none⟩ = some (.map (some bm))) := Lib.hid (by have := cell_blk HCD.out.ptr 0; simpa using this)
      have HN3 : Hid (∀ b, AtBox l box b → b < (W.alloc (.cells #[.string x.box, .string x.frm, .string x.to, .string x.place, .int .i64 x.day] 41)).heap.size ∧ b ≠ bm) := Lib.hid fun b ⟨v, h1, h2⟩ => ⟨(ch_row HCD.out (mem_of_mget h1) h2).2.1, (ch_row HCD.out (mem_of_mget h1) h2).2.2.2⟩
      have HN : Hid ((¬ (bp = bm ∨ AtBox l box bp)) ∧ bp < (W.alloc (.cells #[.string x.box, .string x.frm, .string x.to, .string x.place, .int .i64 x.day] 41)).heap.size ∧ ¬ (w.heap.size = bm ∨ AtBox l box w.heap.size)) := Lib.hid ⟨fun h => h.elim (ch_ne HCD.out) fun ⟨v, h1, h2⟩ => (ch_row HCD.out (mem_of_mget h1) h2).2.2.1 rfl, lt_blk HCD.out.ptr,
        fun h => h.elim (fun e => by have := HCW.out.map.lt; omega) fun ⟨v, h1, h2⟩ => by have := (ch_row HCW.out (mem_of_mget h1) h2).2.1; omega⟩
      have HBEL := HBELD
      clear x0 x1 x2 x3 x4 c0 q0 q1 q2 q3 q4 hlx hlb hlp t1 t9 t10
      refine Ord.region_lit (fun
        | 0 => Ord.val (.pointer (some ⟨bp, 0, none⟩))
        | 1 => Ord.val (.pointer (some ⟨bp, 0, none⟩))
        | 2 => Ord.val (.pointer (some ⟨bp, 0, none⟩))
        | 3 => Ord.val (.map (some bm))
        | 4 => Ord.val (.pointer (some ⟨w.heap.size, 0, none⟩))
        | 5 => Ord.val (.string box)
        | 6 => Ord.val (.slice (some ⟨b1, off1, none⟩) (m + 1) cv)
        | 7 => Ord.val (.agg #[.string box, .string frm, .string to, .string place, .int .i64 d])
        | 8 => ⟨fun v O w => ∃ b, v = .slice (some ⟨b, 0, none⟩) 1 1 ∧ w.heap[b]? = some (.cells #[.string box, .string frm, .string to, .string place, .int .i64 d] 41 (0, 0)) ∧ ∀ b', O b' ↔ b' = b, [], fun _ => False⟩
        | 9 => ⟨fun v O w => w.ownsRow 0 41 5 v (m + 1 + 1) (hdCells (L ++ [x] ++ [⟨box, frm, to, place, d⟩])) ∧ ∀ b, O b ↔ v.ownBlock = some b, [8], AtBox l box⟩
        | 10 => ⟨fun _ O w => ∃ v, w.ownsRow 0 41 5 v (m + 1 + 1) (hdCells (L ++ [x] ++ [⟨box, frm, to, place, d⟩])) ∧ MapAt w bm (mput l box v) ∧ ∀ b, O b ↔ (b = bm ∨ v.ownBlock = some b), [9], fun b => b = bm⟩
        | _ => Ord.idle) (fun b => b = bm ∨ AtBox l box b) (by kernel_rfl) (by kernel_rfl) (by kernel_rfl) ?_ ?_ ?_ ?_
      · intro i _
        match i with
        | 0 => exact Ord.lasts_val _
        | 1 => exact Ord.lasts_val _
        | 2 => exact Ord.lasts_val _
        | 3 => exact Ord.lasts_val _
        | 4 => exact Ord.lasts_val _
        | 5 => exact Ord.lasts_val _
        | 6 => exact Ord.lasts_val _
        | 7 => exact Ord.lasts_val _
        | 8 => exact ⟨fun v O w h b hb => by
      obtain ⟨b', _, h2, h3⟩ := h
      exact (h3 b).1 hb ▸ lt_blk h2, fun v O w w' h _ _ _ hs => by
      obtain ⟨b', h1, h2, h3⟩ := h
      exact ⟨b', h1, (hs b' ((h3 b').2 rfl)).trans h2, h3⟩⟩
        | 9 => exact ⟨fun v O w h b hb => (h.1.lt b ((h.2 b).1 hb)).2, fun v O w w' h _ _ _ hs => ⟨Any.ownsRow_same h.1 (fun b hb => hs b ((h.2 b).2 hb)), h.2⟩⟩
        | 10 => exact ⟨fun v O w h b hb => by
      obtain ⟨v', h1, h2, h3⟩ := h
      rcases (h3 b).1 hb with rfl | h4
      · exact h2.lt
      · exact (h1.lt b h4).2, fun v O w w' h _ _ _ hs => by
      obtain ⟨v', h1, h2, h3⟩ := h
      exact ⟨v', Any.ownsRow_same h1 (fun b hb => hs b ((h3 b).2 (.inr hb))), h2.same (hs bm ((h3 bm).2 (.inl rfl))), h3⟩⟩
        | n + 11 => exact Ord.lasts_idle
      · refine ⟨fun k b _ hh => ?_, fun k b _ hh => ?_, fun k k' b _ _ hne h1 h2 => ?_⟩
        · match k, hh with
          | 0, hh => exact hh.elim
          | 1, hh => exact hh.elim
          | 2, hh => exact hh.elim
          | 3, hh => exact hh.elim
          | 4, hh => exact hh.elim
          | 5, hh => exact hh.elim
          | 6, hh => exact hh.elim
          | 7, hh => exact hh.elim
          | 8, hh => exact hh.elim
          | 9, hh => exact .inr hh
          | 10, hh => exact .inl hh
          | m + 11, hh => exact hh.elim
        · match k, hh with
          | 0, hh => exact hh.elim
          | 1, hh => exact hh.elim
          | 2, hh => exact hh.elim
          | 3, hh => exact hh.elim
          | 4, hh => exact hh.elim
          | 5, hh => exact hh.elim
          | 6, hh => exact hh.elim
          | 7, hh => exact hh.elim
          | 8, hh => exact hh.elim
          | 9, hh => exact (HN3.out b hh).1
          | 10, hh => exact (hh ▸ HCD.out.map.lt)
          | m + 11, hh => exact hh.elim
        · have a : (k = 9 ∧ (AtBox l box) b) ∨ (k = 10 ∧ (fun b => b = bm) b) := by
            match k, h1 with
            | 0, hh => exact hh.elim
            | 1, hh => exact hh.elim
            | 2, hh => exact hh.elim
            | 3, hh => exact hh.elim
            | 4, hh => exact hh.elim
            | 5, hh => exact hh.elim
            | 6, hh => exact hh.elim
            | 7, hh => exact hh.elim
            | 8, hh => exact hh.elim
            | 9, hh => exact .inl ⟨rfl, hh⟩
            | 10, hh => exact Or.inr (⟨rfl, hh⟩)
            | m + 11, hh => exact hh.elim
          have a' : (k' = 9 ∧ (AtBox l box) b) ∨ (k' = 10 ∧ (fun b => b = bm) b) := by
            match k', h2 with
            | 0, hh => exact hh.elim
            | 1, hh => exact hh.elim
            | 2, hh => exact hh.elim
            | 3, hh => exact hh.elim
            | 4, hh => exact hh.elim
            | 5, hh => exact hh.elim
            | 6, hh => exact hh.elim
            | 7, hh => exact hh.elim
            | 8, hh => exact hh.elim
            | 9, hh => exact .inl ⟨rfl, hh⟩
            | 10, hh => exact Or.inr (⟨rfl, hh⟩)
            | m + 11, hh => exact hh.elim
          rcases a with ⟨rfl, a⟩ | ⟨rfl, a⟩ <;> rcases a' with ⟨rfl, a'⟩ | ⟨rfl, a'⟩
          all_goals first | exact absurd rfl hne | (first | exact (HN3.out b a).2 a' | exact (HN3.out b a').2 a | (subst a; exact (HN3.out _ a').2 rfl) | (subst a'; exact (HN3.out _ a).2 rfl))
      · refine ⟨?_, ?_, ?_, ?_, ?_, ?_, ?_, ?_, ?_, ?_, ?_, trivial⟩
        · refine Ord.owes_plain rfl fun ρ Os wo hs' hb hc' => ?_
          have h0 : ρ (.tmp 0) = .pointer (some ⟨bp, 0, none⟩) := hs'.old' 0 (by kernel_rfl)
          exact Any.ok_move (Ord.post_val rfl h0)
        · refine Ord.owes_plain rfl fun ρ Os wo hs' hb hc' => ?_
          have h64 : ρ (.tmp 64) = .pointer (some ⟨bp, 0, none⟩) := (hs'.new' 64 0 (by kernel_rfl)).1
          go_simp
          exact Ord.post_val rfl rfl
        · refine Ord.owes_plain rfl fun ρ Os wo hs' hb hc' => ?_
          have h65 : ρ (.tmp 65) = .pointer (some ⟨bp, 0, none⟩) := (hs'.new' 65 1 (by kernel_rfl)).1
          go_simp
          exact Ord.post_val rfl rfl
        · refine Ord.owes_plain rfl fun ρ Os wo hs' hb hc' => ?_
          have h66 : ρ (.tmp 66) = .pointer (some ⟨bp, 0, none⟩) := (hs'.new' 66 2 (by kernel_rfl)).1
          have c0 : wo.cell? ⟨bp, 0, none⟩ = some (.map (some bm)) := (hb.cell HN.out.2.1 HN.out.1).trans C0.out
          go_simp
          exact Ord.post_val rfl rfl
        · refine Ord.owes_plain rfl fun ρ Os wo hs' hb hc' => ?_
          have h3 : ρ (.tmp 3) = .pointer (some ⟨w.heap.size, 0, none⟩) := hs'.old' 3 (by kernel_rfl)
          go_simp
          exact Ord.post_val rfl rfl
        · refine Ord.owes_plain rfl fun ρ Os wo hs' hb hc' => ?_
          have h68 : ρ (.tmp 68) = .pointer (some ⟨w.heap.size, 0, none⟩) := (hs'.new' 68 4 (by kernel_rfl)).1
          obtain ⟨x0, -, -, -, -⟩ := hd_cells (hb.blk HXD.out HN.out.2.2)
          go_simp
          exact Ord.post_val rfl rfl
        · refine Ord.owes_plain rfl fun ρ Os wo hs' hb hc' => ?_
          have h5 : ρ (.tmp 5) = .slice (some ⟨b1, off1, none⟩) (m + 1) cv := hs'.old' 5 (by kernel_rfl)
          exact Any.ok_move (Ord.post_val rfl h5)
        · refine Ord.owes_plain rfl fun ρ Os wo hs' hb hc' => ?_
          have h3 : ρ (.tmp 3) = .pointer (some ⟨w.heap.size, 0, none⟩) := hs'.old' 3 (by kernel_rfl)
          obtain ⟨x0, x1, x2, x3, x4⟩ := hd_cells (hb.blk HXD.out HN.out.2.2)
          go_simp
          exact Ord.post_val rfl rfl
        · refine Ord.owes_plain rfl fun ρ Os wo hs' hb hc' => ?_
          have h71 : ρ (.tmp 71) = .agg #[.string box, .string frm, .string to, .string place, .int .i64 d] := (hs'.new' 71 7 (by kernel_rfl)).1
          go_simp
          exact Ord.post_new ⟨wo.heap.size, rfl, heap_alloc_new _ _, fun _ => Iff.rfl⟩ (one_below _ _) (fun b hb => Nat.le_of_eq hb.symm)
        · refine Ord.owes_plain rfl fun ρ Os wo hs' hb hc' => ?_
          have h70 : ρ (.tmp 70) = .slice (some ⟨b1, off1, none⟩) (m + 1) cv := (hs'.new' 70 6 (by kernel_rfl)).1
          obtain ⟨g, hg, hgb, -⟩ := hs'.new' 72 8 (by kernel_rfl)
          have hown : wo.ownsRow 0 41 5 (ρ (.tmp 70)) (m + 1) (hdCells (L ++ [x])) := by rw [h70]; exact Any.ownsRow_same HROWN.out (fun b hb => hs'.here b ⟨_, HG.out, hb⟩)
          have hsrc : Src wo 5 (ρ (.tmp 72)) 1 [.string box, .string frm, .string to, .string place, .int .i64 d] := by rw [hg]; exact src_block hgb rfl
          refine Any.ok_append_own Try.underlying22 HI.out.1 HI.out.2.1 HI.out.2.2.1 HI.out.2.2.2 rfl (by decide) hown hsrc (hd_one ⟨box, frm, to, place, d⟩) HL.out.1 HL.out.2 (Nat.zero_le _) fun v' w' h1 h2 h3 => ?_
          rw [show hdCells (L ++ [x]) ++ [.string box, .string frm, .string to, .string place, .int .i64 d] = hdCells (L ++ [x] ++ [⟨box, frm, to, place, d⟩]) from by rw [hdCells_append (L ++ [x])]; simp [hdCells, Hd.row]] at h1
          refine ⟨fun b => v'.ownBlock = some b, ⟨h1, fun b => Iff.rfl⟩, ⟨h2.os, h2.tape, h2.output⟩, h2.size, fun b hlt _ hne => h2.block b hlt (fun e => hne ⟨_, HG.out, by rw [← h70]; exact e.symm⟩), fun b hb => ?_⟩
          rcases h3 b hb with h4 | h4
          · exact .inr (.inr ⟨_, HG.out, by rw [← h70]; exact h4⟩)
          · exact .inr (.inl h4)
        · refine Ord.owes_plain rfl fun ρ Os wo hs' hb hc' => ?_
          have h67 : ρ (.tmp 67) = .map (some bm) := (hs'.new' 67 3 (by kernel_rfl)).1
          have h69 : ρ (.tmp 69) = .string box := (hs'.new' 69 5 (by kernel_rfl)).1
          obtain ⟨hr1, hr2⟩ := hs'.new' 73 9 (by kernel_rfl)
          have hmap : MapAt wo bm l := HCD.out.map.same (hs'.here bm rfl)
          refine Mp.ok_update (key := box) (v := ρ (.tmp 73)) Try.underlying60 Try.underlying9 h67 h69 rfl hmap fun w' h1 h2 h3 => ?_
          refine ⟨fun b => b = bm ∨ (ρ (.tmp 73)).ownBlock = some b, ⟨_, Any.ownsRow_same hr1 (fun b hob => h2.block b (hr1.lt b hob).2 (fun e => ?_)), h1, fun _ => Iff.rfl⟩, ⟨h2.os, h2.tape, h2.output⟩, h2.size, fun b hlt _ hne => h2.block b hlt (fun e => hne (Option.some.inj e)), fun b hb => ?_⟩
          · exact row_ne_map hr1 hmap (hob.trans e)
          · rcases hb with rfl | hb
            · exact .inr (.inr rfl)
            · exact .inl ⟨9, List.mem_singleton.2 rfl, (hr2 b).2 hb⟩
      · intro vals Os w' hk hkn hap hbd
        have hk10 := hkn 10 (by kernel_rfl)
        have hbd10 := hbd 10 (by kernel_rfl)
        clear hkn hap hbd
        have HKF := Lib.hid hk
        have HK10 := Lib.hid hk10
        have HBD10 := Lib.hid hbd10
        clear hk hk10 hbd10
        go_wp2_with fail
        go_ret
        obtain ⟨v', k1, k2, k3⟩ := HK10.out
        exact hand_yes HBEL.out HCD.out HW.out HKF.out k1 k2 (fun g hg => HBD10.out g ((k3 g).2 (.inr hg))) ⟨HE0.out, rfl⟩
    · have HG := Lib.hid hg
      have HH := Lib.hid hh
      clear hg hh
      go_enter Try.func23, Try.ntmps23
      go_wp2_with (first
        | ((with_reducible refine (areNames_any _ _ _ HSN.out).mono ?_); rintro e w1 ⟨rfl, hb1⟩; have HX := Lib.hid (blk hb1 (lt_blk HX.out) HX.out); obtain ⟨x0, x1, x2, x3, x4⟩ := hd_cells HX.out; have HC := Lib.hid (HC.out.below hb1); have HBEL := Lib.hid (HBEL.out.trans (hb1.mono HBEL.out.size)); have c0 := cell_blk HC.out.ptr 0; simp only [List.getElem?_toArray, List.getElem?_cons_zero] at c0; clear hb1)
        | ((with_reducible refine (isDay_any _ _).mono ?_); rintro e w1 ⟨rfl, hb1⟩; have HX := Lib.hid (blk hb1 (lt_blk HX.out) HX.out); obtain ⟨x0, x1, x2, x3, x4⟩ := hd_cells HX.out; have HC := Lib.hid (HC.out.below hb1); have HBEL := Lib.hid (HBEL.out.trans (hb1.mono HBEL.out.size)); have c0 := cell_blk HC.out.ptr 0; simp only [List.getElem?_toArray, List.getElem?_cons_zero] at c0; clear hb1)
        | fail)
      have q37 : ∀ n, (Instr.lookup 60 (.map (some bm)) (.string box) true).run Try.prog (w1.drewN n) = .ok (.tuple #[.slice none 0 0, .bool false]) (w1.drewN n) := fun n => by
        have := Mp.run_lookup Try.underlying60 Try.underlying9 (zeroHs _) (HC.out.map.same (w' := w1.drewN n) rfl) box true
        rw [HG.out] at this
        exact this
      go_quiet (fail)
      go_wp2_with fail
      go_ret
      exact begin_no HCW.out (below_drewN HBEL.out nq) ⟨by rw [← HE.out]; exact handE_of HNM.out HEQ.out (by simp [HDY.out, HH.out]), by decide⟩
  all_goals
    have HNM := Lib.hid hnm
    have HEQ := Lib.hid heq
    have HDY := Lib.hid hdy
    go_enter Try.func23, Try.ntmps23
    go_wp2_with (first
      | ((with_reducible refine (areNames_any _ _ _ HSN.out).mono ?_); rintro e w1 ⟨rfl, hb1⟩; have HX := Lib.hid (blk hb1 (lt_blk HX.out) HX.out); obtain ⟨x0, x1, x2, x3, x4⟩ := hd_cells HX.out; have HC := Lib.hid (HC.out.below hb1); have HBEL := Lib.hid (HBEL.out.trans (hb1.mono HBEL.out.size)); have c0 := cell_blk HC.out.ptr 0; simp only [List.getElem?_toArray, List.getElem?_cons_zero] at c0; clear hb1)
      | ((with_reducible refine (isDay_any _ _).mono ?_); rintro e w1 ⟨rfl, hb1⟩; have HX := Lib.hid (blk hb1 (lt_blk HX.out) HX.out); obtain ⟨x0, x1, x2, x3, x4⟩ := hd_cells HX.out; have HC := Lib.hid (HC.out.below hb1); have HBEL := Lib.hid (HBEL.out.trans (hb1.mono HBEL.out.size)); have c0 := cell_blk HC.out.ptr 0; simp only [List.getElem?_toArray, List.getElem?_cons_zero] at c0; clear hb1)
      | fail)
    go_ret
    exact begin_no HCW.out HBEL.out ⟨by rw [← HE.out]; exact handE_of HNM.out HEQ.out (by simp [HDY.out]), by decide⟩
end Go.Proofs.Ytmjblefjaccocaa.Sc
