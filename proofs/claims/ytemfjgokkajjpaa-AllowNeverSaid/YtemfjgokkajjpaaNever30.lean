/- AllowNever: for every input the law returns true. -/
import Derived.Test.YtemfjgokkajjpaaMay
import Derived.Test.YtemfjgokkajjpaaLawA30
namespace Go.Proofs.Ytemfjgokkajjpaa.allowNever
open Go.ChangeShapes Go.WideShapes Go.ChangeAt Go.RowKit Go Sc

/-! The plain law. -/
def pick (c : Cr) (had : List Dr) (d : Dr) : List Dr := if mayCode c had d = 0 then had ++ [d] else had
def had (c : Cr) (l : List Dr) : List Dr := l.foldl (pick c) []

structure Kept (c : Cr) (h : List Dr) : Prop where
  bnd : c.bnd = false → h = []
  draws : draws h = true
  most : c.bnd = true → dsum h ≤ c.most
  days : ∀ d ∈ h, d.day ≤ c.expiry
  one : c.part = false → h.length ≤ 1 ∧ (h.length = 0 ∨ c.least ≤ dsum h)

theorem code_zero {c : Cr} {h : List Dr} {d : Dr} (hz : mayCode c h d = 0) : c.bnd = true ∧ draws (h ++ [d]) = true ∧ d.day ≤ c.expiry ∧ (c.part = false → h.length = 0) ∧ dsum (h ++ [d]) ≤ c.most ∧ (c.part = false → c.least ≤ d.amt) := by
  simp only [mayCode] at hz
  cases hm : mayArg c h d
  · rw [hm] at hz
    simp only [mayArg, Bool.not_eq_false', Bool.and_eq_true] at hm
    refine ⟨hm.1, hm.2, ?_⟩
    by_cases q1 : c.expiry < d.day
    · simp [q1] at hz
    by_cases q2 : c.part = false ∧ 0 < h.length
    · rw [if_neg (by simp), if_neg q1, if_pos q2] at hz; omega
    by_cases q3 : c.most < dsum (h ++ [d])
    · rw [if_neg (by simp), if_neg q1, if_neg q2, if_pos q3] at hz; omega
    by_cases q4 : c.part = false ∧ d.amt < c.least
    · rw [if_neg (by simp), if_neg q1, if_neg q2, if_neg q3, if_pos q4] at hz; omega
    exact ⟨by omega, fun hp => Nat.eq_zero_of_not_pos fun h' => q2 ⟨hp, h'⟩, by omega, fun hp => Int.not_lt.1 fun h' => q4 ⟨hp, h'⟩⟩
  · rw [hm] at hz
    simp at hz

theorem kept_nil (c : Cr) : Kept c [] := ⟨fun _ => rfl, rfl, fun hb => by have := most_range c ((bnd_iff c).1 hb); simp only [dsum]; omega, by simp, fun _ => by simp⟩
theorem kept_pick {c : Cr} {h : List Dr} (hk : Kept c h) (d : Dr) : Kept c (pick c h d) := by
  unfold pick
  split
  · rename_i hz
    obtain ⟨q1, q2, q3, q4, q5, q6⟩ := code_zero hz
    refine ⟨fun hb => (by rw [q1] at hb; cases hb), q2, fun _ => q5, fun x hx => ?_, fun hp => ?_⟩
    · rcases List.mem_append.1 hx with hx | hx
      · exact hk.days x hx
      · obtain rfl : x = d := by simpa using hx
        exact q3
    · have h0 : h = [] := List.length_eq_zero_iff.1 (q4 hp)
      subst h0
      have := q6 hp
      simp only [List.nil_append, List.length_cons, List.length_nil, dsum]
      omega
  · exact hk
theorem kept_had (c : Cr) (l : List Dr) : Kept c (had c l) := by
  unfold had
  suffices ∀ h, Kept c h → Kept c (l.foldl (pick c) h) from this [] (kept_nil c)
  induction l with
  | nil => exact fun h hk => hk
  | cons d r ih => exact fun h hk => ih _ (kept_pick hk d)
theorem had_succ (c : Cr) (l : List Dr) (k : Nat) (h : k < l.length) : had c (l.take (k + 1)) = pick c (had c (l.take k)) l[k] := by
  unfold had
  rw [List.take_succ_eq_append_getElem h, List.foldl_append]
  rfl
theorem had_len (c : Cr) (l : List Dr) : (had c l).length ≤ l.length := by
  unfold had
  suffices ∀ h : List Dr, (l.foldl (pick c) h).length ≤ h.length + l.length from by simpa using this []
  induction l with
  | nil => intro h; simp
  | cons d r ih =>
    intro h
    have := ih (pick c h d)
    have hp : (pick c h d).length ≤ h.length + 1 := by unfold pick; split <;> simp
    simp only [List.foldl_cons, List.length_cons]
    omega

theorem ownsRow_below {w w' : World} {B : Nat} {e : TypeId} {size n : Nat} {v : Value} {xs : List Value} (h : w.ownsRow B e size v n xs) (hb : Below w.heap.size w w') : w'.ownsRow B e size v n xs :=
  Any.ownsRow_same h fun b hbk => hb.block b (h.lt b hbk).2
theorem own_shape {w : World} {B : Nat} {e : TypeId} {size n : Nat} {v : Value} {xs : List Value} (h : w.ownsRow B e size v n xs) : ∃ a c, v = .slice a n c := by
  rcases h.2 with ⟨rfl, rfl⟩ | ⟨g, cap, cur, rfl, _⟩
  · exact ⟨none, 0, rfl⟩
  · exact ⟨_, cap, rfl⟩
theorem cell_lt {w : World} {p : Addr} {v : Value} (h : w.cell? p = some v) : p.block < w.heap.size := World.block_lt_of_cell? w p h

set_option maxRecDepth 100000 in
set_option maxHeartbeats 4000000 in
theorem walk (a0 a1 a2 a3 : Int) (p : Bool) (l : List Dr) (v : Value) (w : World) (hsl : Sl w 2 v (l.map Dr.row)) :
    Calls Try.prog 5 #[.int .i64 a0, .int .i64 a1, .int .i64 a2, .int .i64 a3, .bool p, v] w (RetB w true) := by
  obtain ⟨a, k, rfl⟩ : ∃ a k, v = .slice a l.length k := by simpa using hsl.shape
  have HSL := Lib.hid hsl
  clear hsl
  by_cases hlen : l.length ≤ 60
  · have hl60 : decide ((60 : Int) < (l.length : Int)) = false := by simp; omega
    have HLEN := Lib.hid hlen
    clear hlen
    have HC := Lib.hid (fun w => bounds_any a0 a1 a2 a3 p w)
    have hex : (mkCr a0 a1 a2 a3 p).expiry = a3 := rfl
    have hpt : (mkCr a0 a1 a2 a3 p).part = p := rfl
    generalize mkCr a0 a1 a2 a3 p = C at *
    have HEX := Lib.hid hex
    have HPT := Lib.hid hpt
    clear hex hpt
    go_enter Try.func5, Try.ntmps5
    go_wp2_with fail
    refine (awake_any _).mono ?_
    rintro e w1 ⟨rfl, hb1⟩
    go_wp2_with fail
    refine (HC.out _).mono ?_
    rintro e w2 ⟨rfl, hb⟩
    have hb2 := below_then hb1 hb
    have h0 := heap_alloc_new w2 (.cells C.cells 27)
    go_wp2_with (first | (refine new_cr 13 (.tmp 35) C rfl rfl ?_) | fail)
    go_loopw [14, 15] (fun s14 i wr => ∃ (j : Nat) (hv : Value), j ≤ l.length ∧ i = .int .i64 j ∧ hv = s14 ∧ wr.ownsRow (w2.heap.size + 1) 39 2 hv (had C (l.take j)).length (drCells (had C (l.take j))) ∧ wr.heap[w2.heap.size]? = some (.cells C.cells 27 (0, 0)) ∧ Below w.heap.size w wr)
      (fun _ i _ => l.length - (intOf i).toNat)
    case atStart =>
      have hmade := World.ownsRow_made (w2.alloc (.cells C.cells 27)) (e := 39) (size := 2) (base := w2.heap.size + 1) #[] 0 (by simp) (by simp [maxLen]) rfl
      simp only [World.size_alloc] at hmade
      exact ⟨0, _, Nat.zero_le _, rfl, rfl, hmade, (heap_alloc_old _ _ (by simp)).trans h0, hb2.trans (((Below.refl _ _).alloc (Nat.le_refl _) _).alloc (by simp) _ |>.mono hb2.size)⟩
    case round =>
      obtain ⟨j, hv, hj, rfl, rfl, hown, hbox, hbel⟩ := hrel
      by_cases hlt : j < l.length
      · obtain ⟨b, off, rfl, -, hb0, hcells⟩ := HSL.out.at (i := j) (by simpa using hlt)
        have hr := hcells j l[j].row (by simp [hlt])
        have d0 := (hbel.cell (p := ⟨b, off + j * 2, none⟩) hb0).trans (hr 0 _ rfl)
        have d1 := (hbel.cell (p := ⟨b, off + j * 2 + 1, none⟩) hb0).trans (hr 1 _ rfl)
        have HS := Lib.hid (had_succ C l j hlt)
        have HJ := Lib.hid hlt
        have HLE := Lib.hid (had_len C (l.take j))
        have HLT := Lib.hid (show (l.take j).length ≤ 60 from by have := HLEN.out; simp; omega)
        clear hcells hr
        generalize l[j] = dd at *
        obtain ⟨day, amt⟩ := dd
        simp only at d0 d1
        generalize had C (l.take j) = h at *
        have HOWN := Lib.hid hown
        clear hown
        have hjl : decide ((j : Int) < (l.length : Int)) = true := by simp; omega
        have hjb : (j : Int) ≤ 60 := by have := HLEN.out; omega
        go_wp2_with fail
        refine Any.region_lit (fun
          | 0 => Any.val (.agg C.cells)
          | 1 => Any.val (hv)
          | 2 => Any.val (.slice (some ⟨b, off, none⟩) l.length k)
          | 3 => Any.val (.int .i64 j)
          | 4 => Any.val (.pointer (some ⟨b, off + j * 2, none⟩))
          | 5 => Any.val (.agg #[.int .i64 day, .int .i64 amt])
          | 6 => Any.val (.int .i64 (mayCode C h ⟨day, amt⟩))
          | 7 => Any.val (.bool (mayCode C h ⟨day, amt⟩ == 0))
          | _ => Any.idle) (by kernel_rfl) (by kernel_rfl) (by kernel_rfl) ?_ ?_ ?_
        · intro i _
          match i with
          | 0 => exact Any.lasts_val _
          | 1 => exact Any.lasts_val _
          | 2 => exact Any.lasts_val _
          | 3 => exact Any.lasts_val _
          | 4 => exact Any.lasts_val _
          | 5 => exact Any.lasts_val _
          | 6 => exact Any.lasts_val _
          | 7 => exact Any.lasts_val _
          | n + 8 => exact Any.lasts_idle
        · refine ⟨?_, ?_, ?_, ?_, ?_, ?_, ?_, ?_, trivial⟩
          · refine Any.owes_plain rfl fun ρ W hs' hb hc' => ?_
            have h13 : ρ (.tmp 13) = .pointer (some ⟨w2.heap.size, 0, none⟩) := hs'.old' 13 (by kernel_rfl)
            exact ok_load_cr _ C _ h13 (blk hb (lt_blk hbox) hbox) (Any.post_val hb rfl rfl)
          · refine Any.owes_plain rfl fun ρ W hs' hb hc' => ?_
            have h14 : ρ (.tmp 14) = hv := hs'.old' 14 (by kernel_rfl)
            exact Any.ok_move (Any.post_val hb rfl h14)
          · refine Any.owes_plain rfl fun ρ W hs' hb hc' => ?_
            have h5 : ρ (.tmp 5) = .slice (some ⟨b, off, none⟩) l.length k := hs'.old' 5 (by kernel_rfl)
            exact Any.ok_move (Any.post_val hb rfl h5)
          · refine Any.owes_plain rfl fun ρ W hs' hb hc' => ?_
            have h15 : ρ (.tmp 15) = .int .i64 j := hs'.old' 15 (by kernel_rfl)
            exact Any.ok_move (Any.post_val hb rfl h15)
          · refine Any.owes_plain rfl fun ρ W hs' hb hc' => ?_
            have h45 : ρ (.tmp 45) = .slice (some ⟨b, off, none⟩) l.length k := hs'.new' 45 2 (by kernel_rfl)
            have h46 : ρ (.tmp 46) = .int .i64 j := hs'.new' 46 3 (by kernel_rfl)
            go_simp
            exact Any.post_val hb rfl rfl
          · refine Any.owes_plain rfl fun ρ W hs' hb hc' => ?_
            have h47 : ρ (.tmp 47) = .pointer (some ⟨b, off + j * 2, none⟩) := hs'.new' 47 4 (by kernel_rfl)
            have c0 := (hb.cell (p := ⟨b, off + j * 2, none⟩) (cell_lt d0)).trans d0
            have c1 := (hb.cell (p := ⟨b, off + j * 2 + 1, none⟩) (cell_lt d1)).trans d1
            go_simp
            exact Any.post_val hb rfl rfl
          · refine Any.owes_plain rfl fun ρ W hs' hb hc' => ?_
            have h43 : ρ (.tmp 43) = .agg C.cells := hs'.new' 43 0 (by kernel_rfl)
            have h44 : ρ (.tmp 44) = hv := hs'.new' 44 1 (by kernel_rfl)
            have h48 : ρ (.tmp 48) = .agg #[.int .i64 day, .int .i64 amt] := hs'.new' 48 5 (by kernel_rfl)
            have hf := hs'.func 16
            go_simp
            exact (May_any C h ⟨day, amt⟩ hv W (own_draws (ownsRow_below (w := wr.drew) HOWN.out hb) rfl)).mono fun e w' ⟨he, hb'⟩ => ⟨_, he, Any.post_vals hb rfl rfl hb'⟩
          · refine Any.owes_plain rfl fun ρ W hs' hb hc' => ?_
            have h49 : ρ (.tmp 49) = .int .i64 (mayCode C h ⟨day, amt⟩) := hs'.new' 49 6 (by kernel_rfl)
            go_simp
            exact Any.post_val hb rfl rfl
        · intro vals w' hb hk _
          have h7 : vals 7 = .bool (mayCode C h ⟨day, amt⟩ == 0) := hk 7 (by kernel_rfl)
          clear hk
          have hown' := ownsRow_below HOWN.out hb
          have HOWN' := Lib.hid hown'
          have hbox' := blk hb (lt_blk hbox) hbox
          have hbel' := hbel.trans (hb.mono hbel.size)
          have e0 := (hb.cell (p := ⟨b, off + j * 2, none⟩) (cell_lt d0)).trans d0
          have e1 := (hb.cell (p := ⟨b, off + j * 2 + 1, none⟩) (cell_lt d1)).trans d1
          have hsz := Nat.le_trans hbel.size hb.size
          clear hb hbel hbox d0 d1 hown'
          cases hz : (mayCode C h ⟨day, amt⟩ == 0)
          · rw [hz] at h7
            have HZ := Lib.hid hz
            clear hz
            go_simp
            go_wp2_with fail
            go_roundw
            case rel => exact ⟨j + 1, hv, HJ.out, by go_num, rfl, by rw [HS.out, pick, if_neg (by simpa using HZ.out)]; exact HOWN'.out, hbox', hbel'⟩
            case measure => have := HJ.out; simp [intOf]; omega
          · rw [hz] at h7
            have HZ := Lib.hid hz
            clear hz
            obtain ⟨i0, hi, hz1, hsz1, hby⟩ := info_parts infoDr
            go_simp
            go_wp2_with (at_builtin; refine Any.wpl rfl (Any.ok_append_own Try.underlying36 hi hz1 hsz1 hby rfl (by decide) (HOWN'.out.alloc _) (src_block (heap_alloc_new _ _) rfl) ?c1 ?c2 ?c3 ?c4 ?c5))
            case c1 => exact ⟨rfl, rfl⟩
            case c2 => have := HLE.out; have := HLT.out; simp only [maxLen]; omega
            case c3 => have := HLE.out; have := HLT.out; omega
            case c4 => simp; have := lt_blk hbox'; omega
            case c5 =>
              intro v' w'' hown2 hg2 hnew2
              have hbox2 := (hg2.block _ (by have := lt_blk hbox'; simp; omega) (fun e => by have := (HOWN'.out.lt w2.heap.size e.symm).1; omega)).trans ((heap_alloc_old _ _ (lt_blk hbox')).trans hbox')
              have hbel2 := (hbel'.alloc (o := .cells #[.int .i64 day, .int .i64 amt] 39) hsz).grown hg2 (by simp; omega) (fun k hk => by have := (HOWN'.out.lt k hk).1; have := hb2.size; omega)
              have HOWN2 := Lib.hid hown2
              clear hown2 hg2 hnew2 hbel' hbox' HOWN'
              go_wp2_with fail
              go_roundw
              case rel => exact ⟨j + 1, v', HJ.out, by go_num, rfl, by rw [HS.out, pick, if_pos (by simpa using HZ.out), List.length_append, drCells_append]; exact HOWN2.out, hbox2, hbel2⟩
              case measure => have := HJ.out; simp [intOf]; omega
      · have hjl : decide ((j : Int) < (l.length : Int)) = false := by simp; omega
        have htk : l.take j = l := List.take_of_length_le (by omega)
        rw [htk] at hown
        have hkept := kept_had C l
        have hlen60 : (had C l).length ≤ 60 := Nat.le_trans (had_len C l) HLEN.out
        generalize had C l = h at *
        have hsl := own_draws hown rfl
        obtain ⟨a', k', rfl⟩ := own_shape hown
        have HD := Lib.hid (fun (w' : World) (hb : Below wr.heap.size wr w') => Drawn_yes h hkept.draws _ w' (hsl.below hb (Nat.le_refl _)))
        have RB := fun w => refBounds_any C w
        clear hown htk
        cases hc : C.bnd
        · obtain rfl := hkept.bnd hc
          rw [hc] at RB
          have HB := Lib.hid RB
          clear RB hc hkept hsl hlen60
          go_wp2_with fail
          refine (HD.out _ (Below.refl _ _)).mono ?_
          rintro e w3 ⟨rfl, hb⟩
          have hbox := blk hb (lt_blk hbox) hbox
          have hbel3 := hbel.trans (hb.mono hbel.size)
          clear hb
          go_wp2_with (first | (refine load_cr (.tmp 13) w2.heap.size C _ rfl rfl hbox ?_) | fail)
          refine (HB.out _).mono ?_
          rintro e w4 ⟨rfl, hb⟩
          have hbel4 := hbel3.trans (hb.mono hbel3.size)
          go_wp2_with fail
          go_ret
          exact retB (by simp) hbel4
        · rw [hc] at RB
          have HB := Lib.hid RB
          have hbd := (bnd_iff C).1 hc
          have HM := Lib.hid (fun w => Most_yes C hc w)
          have HL := Lib.hid (fun w => Least_yes C hc w)
          have hms := hkept.most hc
          have hLeft : ∀ (w' : World), Below wr.heap.size wr w' → Calls Try.prog 18 #[.agg C.cells, .slice a' h.length k'] w' (Ret w' (.tuple #[.int .i64 (C.most - dsum h), .int .i64 0])) := fun w' hb => by
            have := Left_any C h _ w' (hsl.below hb (Nat.le_refl _))
            have h1 : leftOk C h = true := by simp [leftOk, hc, hkept.draws]
            have h2 : (if C.most - dsum h < 0 then 0 else C.most - dsum h) = C.most - dsum h := by rw [if_neg (by omega)]
            unfold RetLeft at this
            rw [h1, if_pos rfl, if_pos rfl, h2] at this
            exact this
          have HLEFT := Lib.hid hLeft
          obtain ⟨s1, s2⟩ := draws_range h hkept.draws
          obtain ⟨m1, m2⟩ := most_range C hbd
          have HDAYS := Lib.hid hkept.days
          have HONE := Lib.hid hkept.one
          have HSL2 := Lib.hid hsl
          clear RB hc hkept hsl hLeft hbd
          generalize C.most = m at *
          generalize C.least = lst at *
          generalize hs : dsum h = s at *
          clear hs
          go_wp2_with fail
          refine (HD.out _ (Below.refl _ _)).mono ?_
          rintro e w3 ⟨rfl, hb3⟩
          have hbox3 := blk hb3 (lt_blk hbox) hbox
          go_wp2_with (first | (refine load_cr (.tmp 13) w2.heap.size C _ rfl rfl hbox3 ?_) | fail)
          refine (HB.out _).mono ?_
          rintro e w4 ⟨rfl, hb⟩
          have hbox4 := blk hb (lt_blk hbox3) hbox3
          have hb4 := below_then hb3 hb
          clear hb hbox3 hb3
          go_wp2_with (first | (refine load_cr (.tmp 13) w2.heap.size C _ rfl rfl hbox4 ?_) | fail)
          refine (HM.out _).mono ?_
          rintro e w5 ⟨rfl, hb⟩
          have hbox5 := blk hb (lt_blk hbox4) hbox4
          have hb5 := below_then hb4 hb
          clear hb hbox4 hb4
          go_wp2_with (first | (refine load_cr (.tmp 13) w2.heap.size C _ rfl rfl hbox5 ?_) | fail)
          refine (HL.out _).mono ?_
          rintro e w6 ⟨rfl, hb⟩
          have hbox6 := blk hb (lt_blk hbox5) hbox5
          have hb6 := below_then hb5 hb
          clear hb hbox5 hb5
          go_wp2_with (first | (refine load_cr (.tmp 13) w2.heap.size C _ rfl rfl hbox6 ?_) | fail)
          refine (HLEFT.out _ hb6).mono ?_
          rintro e w7 ⟨rfl, hb⟩
          have hb7 := below_then hb6 hb
          have hsl7 := HSL2.out.below hb7 (Nat.le_refl _)
          have HSL7 := Lib.hid hsl7
          have hbel7 := hbel.trans (hb7.mono hbel.size)
          clear hb hbox6 hb6 hsl7 hb7 hbel hbox
          have hne : ¬ m < s := by omega
          go_wp2_with fail
          have hh60 : (h.length : Int) ≤ 60 := by omega
          go_loop [24] (fun i => ∃ q : Nat, q ≤ h.length ∧ i = .int .i64 q) (fun i => h.length - (intOf i).toNat)
          case atStart => exact ⟨0, Nat.zero_le _, rfl⟩
          case round =>
            obtain ⟨q, hq, rfl⟩ := hrel
            by_cases hqlt : q < h.length
            · have HQ := Lib.hid hqlt
              have hqd : decide ((q : Int) < (h.length : Int)) = true := by simp; omega
              have hday : ¬ a3 < h[q].day := by have := HDAYS.out h[q] (List.getElem_mem hqlt); have := HEX.out; omega
              obtain ⟨b, off, rfl, -, -, hcs⟩ := HSL7.out.at (i := q) (by simpa using hqlt)
              have hc0 : w7.cell? ⟨b, off + q * 2, none⟩ = some (.int .i64 h[q].day) := hcs q h[q].row (by rw [List.getElem?_map, List.getElem?_eq_getElem hqlt]; rfl) 0 _ rfl
              clear hcs
              generalize h[q].day = dy at *
              go_wp2_with fail
              go_round
              case rel => exact ⟨q + 1, HQ.out, by go_num⟩
              case measure => have := HQ.out; simp [intOf]; omega
            · have hqd : decide ((q : Int) < (h.length : Int)) = false := by simp; omega
              have hpt := HPT.out
              cases p
              · obtain ⟨o1, o2⟩ := HONE.out (by rw [hpt])
                have o1' : (h.length : Int) ≤ 1 := by omega
                by_cases h00 : h.length = 0
                · have h00' : ((h.length : Int) == 0) = true := beq_iff_eq.2 (by omega)
                  clear hpt o2
                  go_wp2_with fail
                  all_goals
                    go_ret
                    exact retB (by simp; try omega) hbel7
                · have h00' : ((h.length : Int) == 0) = false := beq_eq_false_iff_ne.2 (by omega)
                  have h01 : lst ≤ s := by omega
                  clear hpt o2
                  go_wp2_with fail
                  all_goals
                    go_ret
                    exact retB (by simp; try omega) hbel7
              · clear hpt
                go_wp2_with fail
                go_ret
                exact retB (by simp) hbel7
  · have hl60 : decide ((60 : Int) < (l.length : Int)) = true := by simp; omega
    go_enter Try.func5, Try.ntmps5
    go_wp2_with fail
    refine (awake_any _).mono ?_
    rintro e w1 ⟨rfl, hb1⟩
    go_wp2_with fail
    go_ret
    exact ⟨rfl, hb1⟩

theorem lifted (os : Os) (started : os.Started) (H : Type) (enc : TypeId × Value → H) :
    ReturnsInHanded {} Try.checked os 5 .any (Rows.allowNeverSpec.pre6 enc Try.prog Try.f5 Rows.allowNeverRow.domain false) (Rows.allowNeverSpec.post enc Try.prog Try.f5 false true false false) := by
  refine law_lifted os started (by kernel_rfl) Try.func5
    (ChangeSpec.witness6 (enc := enc) (C := Try.checked) false ⟨#[], #[.int .i64 0, .int .i64 0, .int .i64 0, .int .i64 0, .bool false, .slice none 0 0], []⟩ 8 (by kernel_rfl) (by kernel_rfl) (by kernel_rfl) (by kernel_rfl))
    (by kernel_rfl) rfl rfl ?_ ?_
  · intro vs ds W p h
    rw [Try.params5] at h
    obtain ⟨v0, vs0, d0, ds0, p0, q0, rfl, rfl, rfl, h0, r0⟩ := trodAll_cons h
    obtain ⟨v1, vs1, d1, ds1, p1, q1, rfl, rfl, rfl, h1, r1⟩ := trodAll_cons r0
    obtain ⟨v2, vs2, d2, ds2, p2, q2, rfl, rfl, rfl, h2, r2⟩ := trodAll_cons r1
    obtain ⟨v3, vs3, d3, ds3, p3, q3, rfl, rfl, rfl, h3, r3⟩ := trodAll_cons r2
    obtain ⟨v4, vs4, d4, ds4, p4, q4, rfl, rfl, rfl, h4, r4⟩ := trodAll_cons r3
    obtain ⟨v5, vs5, d5, ds5, p5, q5, rfl, rfl, rfl, h5, r5⟩ := trodAll_cons r4
    obtain ⟨rfl, rfl, rfl⟩ := trodAll_nil r5
    rfl
  · intro W base args ds p hval hA
    rw [Try.params5] at hA hval
    obtain ⟨v0, vs0, d0, ds0, p0, q0, hargs, rfl, rfl, h0, r0⟩ := trodAll_cons hA
    obtain ⟨v1, vs1, d1, ds1, p1, q1, rfl, rfl, rfl, h1, r1⟩ := trodAll_cons r0
    obtain ⟨v2, vs2, d2, ds2, p2, q2, rfl, rfl, rfl, h2, r2⟩ := trodAll_cons r1
    obtain ⟨v3, vs3, d3, ds3, p3, q3, rfl, rfl, rfl, h3, r3⟩ := trodAll_cons r2
    obtain ⟨v4, vs4, d4, ds4, p4, q4, rfl, rfl, rfl, h4, r4⟩ := trodAll_cons r3
    obtain ⟨v5, vs5, d5, ds5, p5, q5, rfl, rfl, rfl, h5, r5⟩ := trodAll_cons r4
    obtain ⟨rfl, rfl, rfl⟩ := trodAll_nil r5
    obtain rfl : args = #[v0, v1, v2, v3, v4, v5] := by cases args; simp_all
    obtain ⟨a0, rfl, rfl, rfl, w0⟩ := open_int Try.underlying2 (hval 0 2 v0 rfl rfl) h0
    obtain ⟨a1, rfl, rfl, rfl, w1⟩ := open_int Try.underlying3 (hval 1 3 v1 rfl rfl) h1
    obtain ⟨a2, rfl, rfl, rfl, w2⟩ := open_int Try.underlying3 (hval 2 3 v2 rfl rfl) h2
    obtain ⟨a3, rfl, rfl, rfl, w3⟩ := open_int Try.underlying3 (hval 3 3 v3 rfl rfl) h3
    obtain ⟨a4, rfl, rfl, rfl⟩ := open_bool Try.underlying4 (hval 4 4 v4 rfl rfl) h4
    obtain ⟨l, hsl⟩ := open_draws (hval 5 36 v5 rfl rfl) h5
    exact walk a0 a1 a2 a3 a4 l v5 W hsl

theorem over : Rows.allowNeverRow.holds Try.pinned (OpenSpec.ofChange Rows.allowNeverSpec) :=
  OpenClaim.holds_of_wide 5 Try.f5 rfl rfl rfl rfl rfl rfl rfl ⟨rfl, rfl, rfl, rfl, rfl⟩ rfl rfl rfl rfl rfl (by kernel_rfl) Try.func5 (by kernel_rfl)
    (of_decide_eq_true (by kernel_rfl)) (by unfold Func.isWrapper; rw [if_neg (by decide +kernel)]; exact ⟨rfl, rfl⟩)
    (fun os started H enc _ => lifted os started H enc)

/-- The statement. -/
theorem proved : Rows.AllowNeverSaid := over
#print axioms proved
end Go.Proofs.Ytemfjgokkajjpaa.allowNever
