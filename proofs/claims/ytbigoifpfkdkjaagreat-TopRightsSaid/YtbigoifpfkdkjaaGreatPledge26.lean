/- Liens.Pledge, New, Free, May: by the program. -/
import Derived.Test.YtbigoifpfkdkjaaGreatMay26
import Derived.Test.YtbigoifpfkdkjaaGreatPutM
namespace Go.Proofs.YtbigoifpfkdkjaaGreat.Sc
open Go Go.RowKit Go.ChangeShapes Go.WideShapes Go.ChangeAt
set_option maxRecDepth 100000

theorem look_row (es : Mp.Ents) (t : ByteArray) : Mp.look false (Mp.mget es t) (.slice none 0 0) = rowV es t := by
  unfold rowV Mp.look
  cases Mp.mget es t <;> rfl
set_option maxHeartbeats 4000000 in
theorem some_any {w : World} {F : Nat → Prop} {bk bm n : Nat} {R : ByteArray → List Pg} {es : Mp.Ents} (h : LnAt w F bk bm R n es) (p : Pg) (b2 b3 : Nat) (h2 : w.heap[b2]? = some (.cells #[.pointer (some ⟨bk, 0, none⟩)] 24 (0, 0)))
    (h3 : w.heap[b3]? = some (.cells p.cells 27 (0, 0))) (f : Pg → Bool) (g : Nat) (cb : Array Value) (eg : ∀ args w, (callFunc g args).run Tryz.prog w = .ok (.enter g args) w)
    (hcl : ∀ W (x : Pg), Below w.heap.size w W → Calls Tryz.prog g (#[.agg x.cells] ++ cb) W (RetB W (f x))) :
    Calls Tryz.prog 13 #[.func (.func g) #[] cb, .pointer (some ⟨b2, 0, none⟩), .pointer (some ⟨b3, 0, none⟩)] w (RetB w ((R p.thing).any f)) := by
  have C2 := Lib.hid (fun W (hW : Below w.heap.size w W) => cell_blk (blk hW (lt_blk h2) h2) 0)
  have CK := Lib.hid (fun W (hW : Below w.heap.size w W) => cell_blk (blk hW (lt_blk h.box) h.box) 0)
  have C3 := Lib.hid (fun W (hW : Below w.heap.size w W) => (pgBox_of (blk hW (lt_blk h3) h3)).1)
  have HM := Lib.hid (fun W (hW : Below w.heap.size w W) => (h.below hW).map)
  have HC := Lib.hid (fun W (hW : Below w.heap.size w W) => contains_any f g cb (R p.thing) _ W (own_pgs ((h.below hW).row p.thing) rfl) eg (fun W' x hW' => hcl W' x (hW.trans (hW'.mono hW.size))))
  generalize (R p.thing).any f = B at *
  generalize p.thing = T at *
  clear h h2 h3 hcl eg
  go_enter Tryz.func13, Tryz.ntmps13
  go_wp2_with fail
  refine Any.region_lit (fun
    | 0 => Any.val (.pointer (some ⟨bk, 0, none⟩))
    | 1 => Any.val (.pointer (some ⟨bk, 0, none⟩))
    | 2 => Any.val (.pointer (some ⟨bk, 0, none⟩))
    | 3 => Any.val (.map (some bm))
    | 4 => Any.val (.pointer (some ⟨b3, 0, none⟩))
    | 5 => Any.val (.string T)
    | 6 => Any.val (rowV es T)
    | 7 => Any.val (.func (.func g) #[] cb)
    | 8 => Any.val (.bool B)
    | 9 => Any.val (.bool B)
    | _ => Any.idle) (by kernel_rfl) (by kernel_rfl) (by kernel_rfl) ?_ ?_ ?_
  · intro i _
    match i with
    | 0 => exact Any.lasts_val _
    | 1 => exact Any.lasts_val _
    | 2 => exact Any.lasts_val _
    | 3 => exact Any.lasts_val _
    | 4 => exact Any.lasts_val _
    | 5 => exact Any.lasts_val _
    | 6 => exact Any.lasts_val _
    | 7 => exact Any.lasts_val _
    | 8 => exact Any.lasts_val _
    | 9 => exact Any.lasts_val _
    | n + 10 => exact Any.lasts_idle
  · refine ⟨?_, ?_, ?_, ?_, ?_, ?_, ?_, ?_, ?_, ?_, trivial⟩
    · refine Any.owes_plain rfl fun ρ wo hs' hb hc' => ?_
      have h1 : ρ (.tmp 1) = .pointer (some ⟨b2, 0, none⟩) := hs'.old' 1 (by kernel_rfl)
      have c0 := C2.out wo (below_undrew hb)
      go_simp
      exact Any.post_val hb rfl rfl
    · refine Any.owes_plain rfl fun ρ wo hs' hb hc' => ?_
      have h5 : ρ (.tmp 5) = .pointer (some ⟨bk, 0, none⟩) := hs'.new' 5 0 (by kernel_rfl)
      go_simp
      exact Any.post_val hb rfl rfl
    · refine Any.owes_plain rfl fun ρ wo hs' hb hc' => ?_
      have h6 : ρ (.tmp 6) = .pointer (some ⟨bk, 0, none⟩) := hs'.new' 6 1 (by kernel_rfl)
      go_simp
      exact Any.post_val hb rfl rfl
    · refine Any.owes_plain rfl fun ρ wo hs' hb hc' => ?_
      have h7 : ρ (.tmp 7) = .pointer (some ⟨bk, 0, none⟩) := hs'.new' 7 2 (by kernel_rfl)
      have c0 := CK.out wo (below_undrew hb)
      go_simp
      exact Any.post_val hb rfl rfl
    · refine Any.owes_plain rfl fun ρ wo hs' hb hc' => ?_
      have h2 : ρ (.tmp 2) = .pointer (some ⟨b3, 0, none⟩) := hs'.old' 2 (by kernel_rfl)
      go_simp
      exact Any.post_val hb rfl rfl
    · refine Any.owes_plain rfl fun ρ wo hs' hb hc' => ?_
      have h9 : ρ (.tmp 9) = .pointer (some ⟨b3, 0, none⟩) := hs'.new' 9 4 (by kernel_rfl)
      have c0 := C3.out wo (below_undrew hb)
      go_simp
      exact Any.post_val hb rfl rfl
    · refine Any.owes_plain rfl fun ρ wo hs' hb hc' => ?_
      have h8 : ρ (.tmp 8) = .map (some bm) := hs'.new' 8 3 (by kernel_rfl)
      have h10 : ρ (.tmp 10) = .string T := hs'.new' 10 5 (by kernel_rfl)
      exact Mp.ok_lookup (l := es) (key := T) Tryz.underlying47 Tryz.underlying9 (zeroRow _) h8 h10 (HM.out wo (below_undrew hb)) (Any.post_val hb rfl (look_row es T))
    · refine Any.owes_plain rfl fun ρ wo hs' hb hc' => ?_
      have h0 : ρ (.tmp 0) = .func (.func g) #[] cb := hs'.old' 0 (by kernel_rfl)
      exact Any.ok_move (Any.post_val hb rfl h0)
    · refine Any.owes_plain rfl fun ρ wo hs' hb hc' => ?_
      have h11 : ρ (.tmp 11) = rowV es T := hs'.new' 11 6 (by kernel_rfl)
      have h12 : ρ (.tmp 12) = .func (.func g) #[] cb := hs'.new' 12 7 (by kernel_rfl)
      have hf := hs'.func 14
      go_simp
      exact (HC.out wo (below_undrew hb)).mono fun e w' ⟨he, hb'⟩ => ⟨_, he, Any.post_vals hb rfl rfl hb'⟩
    · refine Any.owes_plain rfl fun ρ wo hs' hb hc' => ?_
      have h13 : ρ (.tmp 13) = .bool B := hs'.new' 13 8 (by kernel_rfl)
      exact Any.ok_assign (Any.post_val hb rfl h13)
  · intro vals w5 hb hk ha
    have h9 : vals 9 = .bool B := hk 9 (by kernel_rfl)
    have HB := Lib.hid hb
    clear hk ha hb
    simp only [Any.putAll]
    go_frame
    simp only [Nat.zero_add, Nat.reduceAdd]
    rw [h9]
    clear h9
    go_wp2_with fail
    go_ret
    exact ⟨rfl, HB.out⟩
/-- The code of a pledge. -/
def pledgeK (R : ByteArray → List Pg) (n : Nat) (p : Pg) : Int := if mayP p = true then wrongT (R p.thing) n p else 1
def pledgeR (R : ByteArray → List Pg) (n : Nat) (p : Pg) : ByteArray → List Pg := if pledgeK R n p = 0 then fun u => if u = p.thing then R p.thing ++ [p] else R u else R
def pledgeN (R : ByteArray → List Pg) (n : Nat) (p : Pg) : Nat := if pledgeK R n p = 0 then n + 1 else n
def PledgeP (w : World) (F : Nat → Prop) (bk bm : Nat) (R : ByteArray → List Pg) (n : Nat) (p : Pg) (e : Ending) (w' : World) : Prop := LnP w F bk bm (pledgeR R n p) (pledgeN R n p) (.int .i64 (pledgeK R n p)) e w'
theorem unpledged {w w' : World} {F : Nat → Prop} {bk bm n : Nat} {R : ByteArray → List Pg} {es : Mp.Ents} {p : Pg} {e : Ending} (h : LnAt w F bk bm R n es) (hb : Below w.heap.size w w') (hne : ¬ pledgeK R n p = 0) (he : e = .returned (.int .i64 (pledgeK R n p))) : PledgeP w F bk bm R n p e w' := by
  refine ⟨F, es, he, ?_, fun k hk => .inl hk, Keep.of_below hb⟩
  rw [pledgeR, pledgeN, if_neg hne, if_neg hne]
  exact h.below hb
theorem pledged {w w5 w6 : World} {F O : Nat → Prop} {bk bm n : Nat} {R : ByteArray → List Pg} {es : Mp.Ents} {p : Pg} {e : Ending} (h : LnAt w5 F bk bm R n es) (k : Keep (fun k => k = bm ∨ (rowV es p.thing).ownBlock = some k) w5 w6)
    (hr : ∃ v, w6.ownsRow 0 27 6 v ((R p.thing).length + 1) (pgCells (R p.thing) ++ p.cells.toList) ∧ Mp.MapAt w6 bm (Mp.mput es p.thing v) ∧ ∀ k, O k ↔ (k = bm ∨ v.ownBlock = some k))
    (hO : ∀ b, O b → w5.heap.size ≤ b ∨ (b = bm ∨ (rowV es p.thing).ownBlock = some b)) (hb : Below w.heap.size w w5) (hz : pledgeK R n p = 0) (he : e = .returned (.int .i64 0)) :
    PledgeP w F bk bm R n p e (w6.setCell ⟨bk, 1, none⟩ (.int .i64 ((n : Int) + 1))) := by
  obtain ⟨v, h1, h2, h3⟩ := hr
  have hnb : ¬ (bk = bm ∨ (rowV es p.thing).ownBlock = some bk) := fun hx => hx.elim (fun e => h.ne e.symm) (fun e => (h.rowB e).2.1 rfl)
  have hbox := k.blk h.box hnb
  have hg := Ord.set_grown w6 bk 1 (.int .i64 ((n : Int) + 1))
  have hset : (w6.setCell ⟨bk, 1, none⟩ (.int .i64 ((n : Int) + 1))).heap[bk]? = some (.cells #[.map (some bm), .int .i64 ((n + 1 : Nat) : Int)] 49 (0, 0)) := by
    simp [World.setCell, Array.getElem?_modify, hbox]
  have hvo : ∀ g, v.ownBlock = some g → (rowV es p.thing).ownBlock = some g ∨ w5.heap.size ≤ g := fun g hg => by
    rcases hO g ((h3 g).2 (.inr hg)) with h4 | h4 | h4
    · exact .inr h4
    · exact absurd (h4 ▸ hg) (Ord.row_not_map h1 h2)
    · exact .inl h4
  have hvk : ∀ g, v.ownBlock = some g → ¬ (some bk = some g) := fun g hg e => by
    obtain rfl := Option.some.inj e
    rcases hvo bk hg with h4 | h4
    · exact (h.rowB h4).2.1 rfl
    · have := h.lt _ h.fk; omega
  have hk2 : Keep (fun b => b = bk ∨ b = bm ∨ (rowV es p.thing).ownBlock = some b) w5 (w6.setCell ⟨bk, 1, none⟩ (.int .i64 ((n : Int) + 1))) :=
    (k.mono (fun i _ hi => .inr hi)).trans (Keep.of_grown hg) (fun i _ hi => .inl (Option.some.inj hi).symm)
  have hS := h.set (t := p.thing) (r := R p.thing ++ [p]) (by simp) hk2 hset (h2.same (Below.heap_setCell _ _ _ _ h.ne)) (by
    rw [pgCells_append, List.length_append]
    have := ownsRow_keep h1 (Keep.of_grown hg) hvk
    simpa [pgCells, Pg.row] using this) hvo
  refine ⟨fun b => F b ∨ (w5.heap.size ≤ b ∧ b < (w6.setCell ⟨bk, 1, none⟩ (.int .i64 ((n : Int) + 1))).heap.size), Mp.mput es p.thing v, by rw [hz]; exact he, ?_, ?_, ?_⟩
  · rw [pledgeR, pledgeN, if_pos hz, if_pos hz]
    exact hS
  · rintro k (hk | hk)
    · exact .inl hk
    · exact .inr (Nat.le_trans hb.size hk.1)
  · refine (Keep.of_below hb).trans hk2 fun i hi hx => ?_
    rcases hx with rfl | rfl | hx
    · exact h.fk
    · exact h.fm
    · exact (h.rowB hx).1
set_option maxHeartbeats 8000000 in
theorem pledge_any {w : World} {F : Nat → Prop} {bk bm n : Nat} {R : ByteArray → List Pg} {es : Mp.Ents} (h : LnAt w F bk bm R n es) (p : Pg) (hn : n ≤ 4096) (hr : ∀ t, (R t).length ≤ n) :
    Calls Tryz.prog 6 #[.pointer (some ⟨bk, 0, none⟩), .agg p.cells] w (PledgeP w F bk bm R n p) := by
  obtain ⟨i0, hi, hz, hsz, hby⟩ := info_parts infoPg
  have HI := Lib.hid (And.intro hi (And.intro hz (And.intro hsz hby)))
  clear hi hz hsz hby
  have HH := Lib.hid h
  obtain ⟨w5, hw5⟩ : ∃ x, x = (w.alloc (.cells #[.pointer (some ⟨bk, 0, none⟩)] 24)).alloc (.cells p.cells 27) := ⟨_, rfl⟩
  obtain ⟨b2, hb2⟩ : ∃ b, b = w.heap.size := ⟨_, rfl⟩
  obtain ⟨b3, hb3⟩ : ∃ b, b = w.heap.size + 1 := ⟨_, rfl⟩
  have HB5 : Hid (Below w.heap.size w w5) := Lib.hid (by rw [hw5]; exact (one_below w _).alloc (one_below w _).size _)
  have H2 : Hid (w5.heap[b2]? = some (.cells #[.pointer (some ⟨bk, 0, none⟩)] 24 (0, 0))) := Lib.hid (by
    rw [hw5, hb2]
    exact blk (one_below _ _) (by simp) (heap_alloc_new _ _))
  have H3 : Hid (w5.heap[b3]? = some (.cells p.cells 27 (0, 0))) := Lib.hid (by
    rw [hw5, hb3]
    have := heap_alloc_new (w.alloc (.cells #[.pointer (some ⟨bk, 0, none⟩)] 24)) (.cells p.cells 27)
    simpa using this)
  have HL5 := Lib.hid (h.below HB5.out)
  have HLT : Hid (∀ k, F k → k < w.heap.size) := Lib.hid h.lt
  have HX2 : Hid (w.heap.size ≤ b2 ∧ w.heap.size ≤ b3) := Lib.hid ⟨by omega, by omega⟩
  have HS := Lib.hid (fun W (hW : Below w5.heap.size w5 W) g cb f eg hcl => some_any (HL5.out.below hW) p b2 b3 (blk hW (lt_blk H2.out) H2.out) (blk hW (lt_blk H3.out) H3.out) f g cb eg hcl)
  have S4 := Lib.hid (fun W (hW : Below w5.heap.size w5 W) => HS.out W hW 15 #[.pointer (some ⟨b3, 0, none⟩)] (fun x => !decide (x.debtor = p.debtor)) (enters_of Tryz.func15 (by kernel_rfl) rfl) (fun W' x hW' => c44_any x p b3 W' (blk (hW.trans (hW'.mono hW.size)) (lt_blk H3.out) H3.out)))
  have S5 := Lib.hid (fun W (hW : Below w5.heap.size w5 W) => HS.out W hW 16 #[.pointer (some ⟨b3, 0, none⟩)] (fun x => decide (x.cred = p.cred)) (enters_of Tryz.func16 (by kernel_rfl) rfl) (fun W' x hW' => c45_any x p b3 W' (blk (hW.trans (hW'.mono hW.size)) (lt_blk H3.out) H3.out)))
  have S6 := Lib.hid (fun W (hW : Below w5.heap.size w5 W) => HS.out W hW 17 #[] (fun x => x.held) (enters_of Tryz.func17 (by kernel_rfl) rfl) (fun W' x hW' => c46_any x W'))
  have HMY := Lib.hid (fun W => may_any p W)
  have HK : pledgeK R n p = if mayP p = true then (if (R p.thing).any (fun x => !decide (x.debtor = p.debtor)) = true then 8 else if (R p.thing).any (fun x => decide (x.cred = p.cred)) = true then 5 else if (p.held && (R p.thing).any (fun x => x.held)) = true then 9 else if 4096 ≤ n then 7 else 0) else 1 := rfl
  have HUN := Lib.hid (fun w' e (hb : Below w.heap.size w w') hne he => unpledged (p := p) (e := e) h hb hne he)
  have C3 := Lib.hid (fun W (hW : Below w5.heap.size w5 W) => pgBox_of (blk hW (lt_blk H3.out) H3.out))
  have C2 := Lib.hid (fun W (hW : Below w5.heap.size w5 W) => cell_blk (blk hW (lt_blk H2.out) H2.out) 0)
  have CK := Lib.hid (fun W (hW : Below w5.heap.size w5 W) => And.intro (cell_blk ((HL5.out.below hW).box) 0) (cell_blk ((HL5.out.below hW).box) 1))
  generalize mayP p = B0 at *
  generalize (R p.thing).any (fun x => !decide (x.debtor = p.debtor)) = B1 at *
  generalize (R p.thing).any (fun x => decide (x.cred = p.cred)) = B2 at *
  generalize (R p.thing).any (fun x => x.held) = B3 at *
  have HNN := Lib.hid (And.intro hn hr)
  clear h HS hn hr
  obtain ⟨pt, pd, pc, py, pa, ph⟩ := p
  simp only [Pg.cells, PgBox] at HMY C3 HK hw5 ⊢
  go_enter Tryz.func6, Tryz.ntmps6
  go_wp2_with fail
  rw [← hw5, ← hb3, ← hb2]
  clear hw5 hb2 hb3
  cases B0
  case false =>
    have HQ := Lib.hid (HK.trans (show _ = (1 : Int) by simp))
    clear HK
    go_wp2_with (first
      | ((with_reducible refine (HMY.out _).mono ?_); rintro e w6 ⟨rfl, hb6⟩; have HB := Lib.hid hb6;  clear hb6)
      | ((with_reducible refine (S4.out _ HB.out).mono ?_); rintro e w7 ⟨rfl, hb7⟩; have HB := Lib.hid (HB.out.trans (hb7.mono HB.out.size));  clear hb7)
      | ((with_reducible refine (S5.out _ HB.out).mono ?_); rintro e w8 ⟨rfl, hb8⟩; have HB := Lib.hid (HB.out.trans (hb8.mono HB.out.size)); have x5 := (C3.out _ HB.out).2.2.2.2.2; obtain ⟨y0, y1⟩ := CK.out _ HB.out; have y2 := C2.out _ HB.out;  clear hb8)
      | ((with_reducible refine (S6.out _ HB.out).mono ?_); rintro e w9 ⟨rfl, hb9⟩; have HB := Lib.hid (HB.out.trans (hb9.mono HB.out.size)); have x5 := (C3.out _ HB.out).2.2.2.2.2; obtain ⟨y0, y1⟩ := CK.out _ HB.out; have y2 := C2.out _ HB.out;  clear hb9)
      | fail)
    go_ret
    exact HUN.out _ _ (HB5.out.trans (HB.out.mono HB5.out.size)) (by rw [HQ.out]; decide) (by rw [HQ.out]; rfl)
  case true =>
  cases B1
  case true =>
    have HQ := Lib.hid (HK.trans (show _ = (8 : Int) by simp))
    clear HK
    go_wp2_with (first
      | ((with_reducible refine (HMY.out _).mono ?_); rintro e w6 ⟨rfl, hb6⟩; have HB := Lib.hid hb6;  clear hb6)
      | ((with_reducible refine (S4.out _ HB.out).mono ?_); rintro e w7 ⟨rfl, hb7⟩; have HB := Lib.hid (HB.out.trans (hb7.mono HB.out.size));  clear hb7)
      | ((with_reducible refine (S5.out _ HB.out).mono ?_); rintro e w8 ⟨rfl, hb8⟩; have HB := Lib.hid (HB.out.trans (hb8.mono HB.out.size)); have x5 := (C3.out _ HB.out).2.2.2.2.2; obtain ⟨y0, y1⟩ := CK.out _ HB.out; have y2 := C2.out _ HB.out;  clear hb8)
      | ((with_reducible refine (S6.out _ HB.out).mono ?_); rintro e w9 ⟨rfl, hb9⟩; have HB := Lib.hid (HB.out.trans (hb9.mono HB.out.size)); have x5 := (C3.out _ HB.out).2.2.2.2.2; obtain ⟨y0, y1⟩ := CK.out _ HB.out; have y2 := C2.out _ HB.out;  clear hb9)
      | fail)
    go_ret
    exact HUN.out _ _ (HB5.out.trans (HB.out.mono HB5.out.size)) (by rw [HQ.out]; decide) (by rw [HQ.out]; rfl)
  case false =>
  cases B2
  case true =>
    have HQ := Lib.hid (HK.trans (show _ = (5 : Int) by simp))
    clear HK
    go_wp2_with (first
      | ((with_reducible refine (HMY.out _).mono ?_); rintro e w6 ⟨rfl, hb6⟩; have HB := Lib.hid hb6;  clear hb6)
      | ((with_reducible refine (S4.out _ HB.out).mono ?_); rintro e w7 ⟨rfl, hb7⟩; have HB := Lib.hid (HB.out.trans (hb7.mono HB.out.size));  clear hb7)
      | ((with_reducible refine (S5.out _ HB.out).mono ?_); rintro e w8 ⟨rfl, hb8⟩; have HB := Lib.hid (HB.out.trans (hb8.mono HB.out.size)); have x5 := (C3.out _ HB.out).2.2.2.2.2; obtain ⟨y0, y1⟩ := CK.out _ HB.out; have y2 := C2.out _ HB.out;  clear hb8)
      | ((with_reducible refine (S6.out _ HB.out).mono ?_); rintro e w9 ⟨rfl, hb9⟩; have HB := Lib.hid (HB.out.trans (hb9.mono HB.out.size)); have x5 := (C3.out _ HB.out).2.2.2.2.2; obtain ⟨y0, y1⟩ := CK.out _ HB.out; have y2 := C2.out _ HB.out;  clear hb9)
      | fail)
    go_ret
    exact HUN.out _ _ (HB5.out.trans (HB.out.mono HB5.out.size)) (by rw [HQ.out]; decide) (by rw [HQ.out]; rfl)
  case false =>
  cases ph
  case false =>
    by_cases hn : 4096 ≤ n
    · have tn : decide ((4096 : Int) ≤ (n : Int)) = true := decide_eq_true (by omega)
      have tm : decide (4096 ≤ n) = true := decide_eq_true hn
      have HQ := Lib.hid (HK.trans (show _ = (7 : Int) by simp [hn]))
      clear HK hn
      go_wp2_with (first
        | ((with_reducible refine (HMY.out _).mono ?_); rintro e w6 ⟨rfl, hb6⟩; have HB := Lib.hid hb6;  clear hb6)
        | ((with_reducible refine (S4.out _ HB.out).mono ?_); rintro e w7 ⟨rfl, hb7⟩; have HB := Lib.hid (HB.out.trans (hb7.mono HB.out.size));  clear hb7)
        | ((with_reducible refine (S5.out _ HB.out).mono ?_); rintro e w8 ⟨rfl, hb8⟩; have HB := Lib.hid (HB.out.trans (hb8.mono HB.out.size)); have x5 := (C3.out _ HB.out).2.2.2.2.2; obtain ⟨y0, y1⟩ := CK.out _ HB.out; have y2 := C2.out _ HB.out;  clear hb8)
        | ((with_reducible refine (S6.out _ HB.out).mono ?_); rintro e w9 ⟨rfl, hb9⟩; have HB := Lib.hid (HB.out.trans (hb9.mono HB.out.size)); have x5 := (C3.out _ HB.out).2.2.2.2.2; obtain ⟨y0, y1⟩ := CK.out _ HB.out; have y2 := C2.out _ HB.out;  clear hb9)
        | fail)
      go_ret
      exact HUN.out _ _ (HB5.out.trans (HB.out.mono HB5.out.size)) (by rw [HQ.out]; decide) (by rw [HQ.out]; rfl)
    · have tn : decide ((4096 : Int) ≤ (n : Int)) = false := decide_eq_false (by omega)
      have tm : decide (4096 ≤ n) = false := decide_eq_false hn
      have HQ := Lib.hid (HK.trans (show _ = (0 : Int) by simp [hn]))
      clear HK hn
      go_wp2_with (first
        | ((with_reducible refine (HMY.out _).mono ?_); rintro e w6 ⟨rfl, hb6⟩; have HB := Lib.hid hb6;  clear hb6)
        | ((with_reducible refine (S4.out _ HB.out).mono ?_); rintro e w7 ⟨rfl, hb7⟩; have HB := Lib.hid (HB.out.trans (hb7.mono HB.out.size));  clear hb7)
        | ((with_reducible refine (S5.out _ HB.out).mono ?_); rintro e w8 ⟨rfl, hb8⟩; have HB := Lib.hid (HB.out.trans (hb8.mono HB.out.size)); have x5 := (C3.out _ HB.out).2.2.2.2.2; obtain ⟨y0, y1⟩ := CK.out _ HB.out; have y2 := C2.out _ HB.out;  clear hb8)
        | ((with_reducible refine (S6.out _ HB.out).mono ?_); rintro e w9 ⟨rfl, hb9⟩; have HB := Lib.hid (HB.out.trans (hb9.mono HB.out.size)); have x5 := (C3.out _ HB.out).2.2.2.2.2; obtain ⟨y0, y1⟩ := CK.out _ HB.out; have y2 := C2.out _ HB.out;  clear hb9)
        | fail)
      clear x5 y0 y1 y2 tn tm
      generalize w8 = wc at *
      have HLN := Lib.hid (HL5.out.below HB.out)
      have HROW := Lib.hid (HLN.out.row pt)
      have HNE : Hid (∀ k, (rowV es pt).ownBlock = some k → k ≠ bm) := Lib.hid (fun k hk => (HLN.out.rowB hk).2.2)
      have hF : ∀ b, w.heap.size ≤ b → ¬ (b = bm ∨ (rowV es pt).ownBlock = some b) := fun b hb hx => by
        rcases hx with rfl | hx
        · have := HLT.out _ HLN.out.fm; omega
        · have := HLT.out _ (HLN.out.rowB hx).1; omega
      have HN2 : Hid (b2 < wc.heap.size ∧ ¬ (b2 = bm ∨ (rowV es pt).ownBlock = some b2)) := Lib.hid ⟨Nat.lt_of_lt_of_le (lt_blk H2.out) HB.out.size, hF _ HX2.out.1⟩
      have HN3 : Hid (b3 < wc.heap.size ∧ ¬ (b3 = bm ∨ (rowV es pt).ownBlock = some b3)) := Lib.hid ⟨Nat.lt_of_lt_of_le (lt_blk H3.out) HB.out.size, hF _ HX2.out.2⟩
      have HNK : Hid (bk < wc.heap.size ∧ ¬ (bk = bm ∨ (rowV es pt).ownBlock = some bk)) := Lib.hid ⟨HLN.out.lt _ HLN.out.fk, fun hx => hx.elim (fun e => HLN.out.ne e.symm) (fun e => (HLN.out.rowB e).2.1 rfl)⟩
      have HKB : Hid (∀ W, Keep (fun k => k = bm ∨ (rowV es pt).ownBlock = some k) wc W → W.cell? ⟨bk, 0, none⟩ = some (.map (some bm)) ∧ W.cell? ⟨bk, 1, none⟩ = some (.int .i64 (n : Int))) := Lib.hid (fun W k => ⟨(k.cell HNK.out.1 HNK.out.2).trans (CK.out _ HB.out).1, (k.cell HNK.out.1 HNK.out.2).trans (CK.out _ HB.out).2⟩)
      have CK := Lib.hid (CK.out _ HB.out).1
      have C2 := Lib.hid (C2.out _ HB.out)
      have C3 := Lib.hid (C3.out _ HB.out)
      have HL : Hid ((R pt).length + 1 ≤ maxLen ∧ ((R pt).length + 1) * 72 ≤ 140737488355328) := Lib.hid (by have h1 := HNN.out.1; have h2 := HNN.out.2 pt; simp only [maxLen]; omega)
      have HB5 := Lib.hid (HB5.out.trans (HB.out.mono HB5.out.size))
      clear hF S4 S5 S6 HUN HMY
      refine Ord.region_lit (fun
        | 0 => Ord.val (.pointer (some ⟨bk, 0, none⟩))
        | 1 => Ord.val (.pointer (some ⟨bk, 0, none⟩))
        | 2 => Ord.val (.pointer (some ⟨bk, 0, none⟩))
        | 3 => Ord.val (.map (some bm))
        | 4 => Ord.val (.pointer (some ⟨b3, 0, none⟩))
        | 5 => Ord.val (.string pt)
        | 6 => Ord.val (.pointer (some ⟨bk, 0, none⟩))
        | 7 => Ord.val (.pointer (some ⟨bk, 0, none⟩))
        | 8 => Ord.val (.pointer (some ⟨bk, 0, none⟩))
        | 9 => Ord.val (.map (some bm))
        | 10 => Ord.val (.pointer (some ⟨b3, 0, none⟩))
        | 11 => Ord.val (.string pt)
        | 12 => Ord.val (rowV es pt)
        | 13 => Ord.val (.agg #[.string pt, .string pd, .string pc, .int .i64 py, .int .i64 pa, .bool false])
        | 14 => Ord.one 27 #[.string pt, .string pd, .string pc, .int .i64 py, .int .i64 pa, .bool false]
        | 15 => Ord.grown 27 6 ((R pt).length + 1) (pgCells (R pt) ++ [.string pt, .string pd, .string pc, .int .i64 py, .int .i64 pa, .bool false]) 14 (rowV es pt)
        | 16 => Ord.laid 27 6 ((R pt).length + 1) (pgCells (R pt) ++ [.string pt, .string pd, .string pc, .int .i64 py, .int .i64 pa, .bool false]) bm es pt 15
        | _ => Ord.idle) (fun k => k = bm ∨ (rowV es pt).ownBlock = some k) (by kernel_rfl) (by kernel_rfl) (by kernel_rfl) ?_ ?_ ?_ ?_
      · intro i _
        match i with
        | 0 => exact Ord.lasts_val _
        | 1 => exact Ord.lasts_val _
        | 2 => exact Ord.lasts_val _
        | 3 => exact Ord.lasts_val _
        | 4 => exact Ord.lasts_val _
        | 5 => exact Ord.lasts_val _
        | 6 => exact Ord.lasts_val _
        | 7 => exact Ord.lasts_val _
        | 8 => exact Ord.lasts_val _
        | 9 => exact Ord.lasts_val _
        | 10 => exact Ord.lasts_val _
        | 11 => exact Ord.lasts_val _
        | 12 => exact Ord.lasts_val _
        | 13 => exact Ord.lasts_val _
        | 14 => exact Ord.lasts_one _ _
        | 15 => exact Ord.lasts_grown _ _ _ _ _ _
        | 16 => exact Ord.lasts_laid _ _ _ _ _ _ _ _
        | n + 17 => exact Ord.lasts_idle
      · refine ⟨fun k b _ hh => ?_, fun k b _ hh => ?_, fun k k' b _ _ hne h1 h2 => ?_⟩
        · match k, hh with
          | 0, hh => exact hh.elim
          | 1, hh => exact hh.elim
          | 2, hh => exact hh.elim
          | 3, hh => exact hh.elim
          | 4, hh => exact hh.elim
          | 5, hh => exact hh.elim
          | 6, hh => exact hh.elim
          | 7, hh => exact hh.elim
          | 8, hh => exact hh.elim
          | 9, hh => exact hh.elim
          | 10, hh => exact hh.elim
          | 11, hh => exact hh.elim
          | 12, hh => exact hh.elim
          | 13, hh => exact hh.elim
          | 14, hh => exact hh.elim
          | 15, hh => exact .inr hh
          | 16, hh => exact .inl hh
          | m + 17, hh => exact hh.elim
        · match k, hh with
          | 0, hh => exact hh.elim
          | 1, hh => exact hh.elim
          | 2, hh => exact hh.elim
          | 3, hh => exact hh.elim
          | 4, hh => exact hh.elim
          | 5, hh => exact hh.elim
          | 6, hh => exact hh.elim
          | 7, hh => exact hh.elim
          | 8, hh => exact hh.elim
          | 9, hh => exact hh.elim
          | 10, hh => exact hh.elim
          | 11, hh => exact hh.elim
          | 12, hh => exact hh.elim
          | 13, hh => exact hh.elim
          | 14, hh => exact hh.elim
          | 15, hh => exact (HROW.out.lt b hh).2
          | 16, hh => exact hh ▸ HLN.out.map.lt
          | m + 17, hh => exact hh.elim
        · have a : (k = 15 ∧ (fun k => (rowV es pt).ownBlock = some k) b) ∨ (k = 16 ∧ (fun k => k = bm) b) := by
            match k, h1 with
            | 0, hh => exact hh.elim
            | 1, hh => exact hh.elim
            | 2, hh => exact hh.elim
            | 3, hh => exact hh.elim
            | 4, hh => exact hh.elim
            | 5, hh => exact hh.elim
            | 6, hh => exact hh.elim
            | 7, hh => exact hh.elim
            | 8, hh => exact hh.elim
            | 9, hh => exact hh.elim
            | 10, hh => exact hh.elim
            | 11, hh => exact hh.elim
            | 12, hh => exact hh.elim
            | 13, hh => exact hh.elim
            | 14, hh => exact hh.elim
            | 15, hh => exact .inl ⟨rfl, hh⟩
            | 16, hh => exact Or.inr (⟨rfl, hh⟩)
            | m + 17, hh => exact hh.elim
          have a' : (k' = 15 ∧ (fun k => (rowV es pt).ownBlock = some k) b) ∨ (k' = 16 ∧ (fun k => k = bm) b) := by
            match k', h2 with
            | 0, hh => exact hh.elim
            | 1, hh => exact hh.elim
            | 2, hh => exact hh.elim
            | 3, hh => exact hh.elim
            | 4, hh => exact hh.elim
            | 5, hh => exact hh.elim
            | 6, hh => exact hh.elim
            | 7, hh => exact hh.elim
            | 8, hh => exact hh.elim
            | 9, hh => exact hh.elim
            | 10, hh => exact hh.elim
            | 11, hh => exact hh.elim
            | 12, hh => exact hh.elim
            | 13, hh => exact hh.elim
            | 14, hh => exact hh.elim
            | 15, hh => exact .inl ⟨rfl, hh⟩
            | 16, hh => exact Or.inr (⟨rfl, hh⟩)
            | m + 17, hh => exact hh.elim
          rcases a with ⟨rfl, a⟩ | ⟨rfl, a⟩ <;> rcases a' with ⟨rfl, a'⟩ | ⟨rfl, a'⟩
          all_goals first | exact absurd rfl hne | (first | exact HNE.out _ a a' | exact HNE.out _ a' a)
      · refine ⟨?_, ?_, ?_, ?_, ?_, ?_, ?_, ?_, ?_, ?_, ?_, ?_, ?_, ?_, ?_, ?_, ?_, trivial⟩
        · refine Ord.owes_plain rfl fun ρ Os wo hs' hb hc' => ?_
          have h2 : ρ (.tmp 2) = .pointer (some ⟨b2, 0, none⟩) := hs'.old' 2 (by kernel_rfl)
          have c0 : wo.cell? ⟨b2, 0, none⟩ = some (.pointer (some ⟨bk, 0, none⟩)) := (hb.cell HN2.out.1 HN2.out.2).trans C2.out
          go_simp
          exact Ord.post_val rfl rfl
        · refine Ord.owes_plain rfl fun ρ Os wo hs' hb hc' => ?_
          have h31 : ρ (.tmp 31) = .pointer (some ⟨bk, 0, none⟩) := hs'.val' 31 0 (by kernel_rfl) rfl
          go_simp
          exact Ord.post_val rfl rfl
        · refine Ord.owes_plain rfl fun ρ Os wo hs' hb hc' => ?_
          have h32 : ρ (.tmp 32) = .pointer (some ⟨bk, 0, none⟩) := hs'.val' 32 1 (by kernel_rfl) rfl
          go_simp
          exact Ord.post_val rfl rfl
        · refine Ord.owes_plain rfl fun ρ Os wo hs' hb hc' => ?_
          have h33 : ρ (.tmp 33) = .pointer (some ⟨bk, 0, none⟩) := hs'.val' 33 2 (by kernel_rfl) rfl
          have c0 : wo.cell? ⟨bk, 0, none⟩ = some (.map (some bm)) := (hb.cell HNK.out.1 HNK.out.2).trans CK.out
          go_simp
          exact Ord.post_val rfl rfl
        · refine Ord.owes_plain rfl fun ρ Os wo hs' hb hc' => ?_
          have h3 : ρ (.tmp 3) = .pointer (some ⟨b3, 0, none⟩) := hs'.old' 3 (by kernel_rfl)
          go_simp
          exact Ord.post_val rfl rfl
        · refine Ord.owes_plain rfl fun ρ Os wo hs' hb hc' => ?_
          have h35 : ρ (.tmp 35) = .pointer (some ⟨b3, 0, none⟩) := hs'.val' 35 4 (by kernel_rfl) rfl
          have c0 : wo.cell? ⟨b3, 0, none⟩ = some (.string pt) := (hb.cell HN3.out.1 HN3.out.2).trans C3.out.1
          go_simp
          exact Ord.post_val rfl rfl
        · refine Ord.owes_plain rfl fun ρ Os wo hs' hb hc' => ?_
          have h2 : ρ (.tmp 2) = .pointer (some ⟨b2, 0, none⟩) := hs'.old' 2 (by kernel_rfl)
          have c0 : wo.cell? ⟨b2, 0, none⟩ = some (.pointer (some ⟨bk, 0, none⟩)) := (hb.cell HN2.out.1 HN2.out.2).trans C2.out
          go_simp
          exact Ord.post_val rfl rfl
        · refine Ord.owes_plain rfl fun ρ Os wo hs' hb hc' => ?_
          have h37 : ρ (.tmp 37) = .pointer (some ⟨bk, 0, none⟩) := hs'.val' 37 6 (by kernel_rfl) rfl
          go_simp
          exact Ord.post_val rfl rfl
        · refine Ord.owes_plain rfl fun ρ Os wo hs' hb hc' => ?_
          have h38 : ρ (.tmp 38) = .pointer (some ⟨bk, 0, none⟩) := hs'.val' 38 7 (by kernel_rfl) rfl
          go_simp
          exact Ord.post_val rfl rfl
        · refine Ord.owes_plain rfl fun ρ Os wo hs' hb hc' => ?_
          have h39 : ρ (.tmp 39) = .pointer (some ⟨bk, 0, none⟩) := hs'.val' 39 8 (by kernel_rfl) rfl
          have c0 : wo.cell? ⟨bk, 0, none⟩ = some (.map (some bm)) := (hb.cell HNK.out.1 HNK.out.2).trans CK.out
          go_simp
          exact Ord.post_val rfl rfl
        · refine Ord.owes_plain rfl fun ρ Os wo hs' hb hc' => ?_
          have h3 : ρ (.tmp 3) = .pointer (some ⟨b3, 0, none⟩) := hs'.old' 3 (by kernel_rfl)
          go_simp
          exact Ord.post_val rfl rfl
        · refine Ord.owes_plain rfl fun ρ Os wo hs' hb hc' => ?_
          have h41 : ρ (.tmp 41) = .pointer (some ⟨b3, 0, none⟩) := hs'.val' 41 10 (by kernel_rfl) rfl
          have c0 : wo.cell? ⟨b3, 0, none⟩ = some (.string pt) := (hb.cell HN3.out.1 HN3.out.2).trans C3.out.1
          go_simp
          exact Ord.post_val rfl rfl
        · refine Ord.owes_plain rfl fun ρ Os wo hs' hb hc' => ?_
          have h40 : ρ (.tmp 40) = .map (some bm) := hs'.val' 40 9 (by kernel_rfl) rfl
          have h42 : ρ (.tmp 42) = .string pt := hs'.val' 42 11 (by kernel_rfl) rfl
          have hm : Mp.MapAt wo bm es := HLN.out.map.same (hs'.early' 16 (by kernel_rfl) bm rfl)
          exact Mp.ok_lookup (l := es) (key := pt) Tryz.underlying47 Tryz.underlying9 (zeroRow _) h40 h42 hm (Ord.post_val rfl (look_row es pt))
        · refine Ord.owes_plain rfl fun ρ Os wo hs' hb hc' => ?_
          have h3 : ρ (.tmp 3) = .pointer (some ⟨b3, 0, none⟩) := hs'.old' 3 (by kernel_rfl)
          have c0 := (hb.cell (o := 0) HN3.out.1 HN3.out.2).trans C3.out.1
          have c1 := (hb.cell (o := 1) HN3.out.1 HN3.out.2).trans C3.out.2.1
          have c2 := (hb.cell (o := 2) HN3.out.1 HN3.out.2).trans C3.out.2.2.1
          have c3 := (hb.cell (o := 3) HN3.out.1 HN3.out.2).trans C3.out.2.2.2.1
          have c4 := (hb.cell (o := 4) HN3.out.1 HN3.out.2).trans C3.out.2.2.2.2.1
          have c5 := (hb.cell (o := 5) HN3.out.1 HN3.out.2).trans C3.out.2.2.2.2.2
          go_simp
          exact Ord.post_val rfl rfl
        · refine Ord.owes_plain rfl fun ρ Os wo hs' hb hc' => ?_
          have h44 : ρ (.tmp 44) = .agg #[.string pt, .string pd, .string pc, .int .i64 py, .int .i64 pa, .bool false] := hs'.val' 44 13 (by kernel_rfl) rfl
          go_simp
          exact Ord.post_one rfl
        · refine Ord.owes_plain rfl fun ρ Os wo hs' hb hc' => ?_
          have h43 : ρ (.tmp 43) = rowV es pt := hs'.val' 43 12 (by kernel_rfl) rfl
          exact Ord.ok_grown Tryz.underlying22 HI.out.1 HI.out.2.1 HI.out.2.2.1 HI.out.2.2.2 rfl (by decide) h43 (hs'.new' 45 14 (by kernel_rfl)) HROW.out hs'.here rfl (pg_one ⟨pt, pd, pc, py, pa, false⟩) HL.out.1 HL.out.2 rfl
        · refine Ord.owes_plain rfl fun ρ Os wo hs' hb hc' => ?_
          have h34 : ρ (.tmp 34) = .map (some bm) := hs'.val' 34 3 (by kernel_rfl) rfl
          have h36 : ρ (.tmp 36) = .string pt := hs'.val' 36 5 (by kernel_rfl) rfl
          exact Ord.ok_laid Tryz.underlying47 Tryz.underlying9 h34 h36 (hs'.new' 46 15 (by kernel_rfl)) HLN.out.map (hs'.here bm rfl) rfl
      · intro vals Os ρs wS hk hkn hln hap hbd
        have h16 := hkn 16 (by kernel_rfl)
        have hbd16 := hbd 16 (by kernel_rfl)
        clear hkn hln hap hbd
        have HKF := Lib.hid hk
        have H16 := Lib.hid h16
        have HBD := Lib.hid hbd16
        clear hk h16 hbd16
        obtain ⟨y0, y1⟩ := HKB.out wS HKF.out
        have y2 : wS.cell? ⟨b2, 0, none⟩ = some (.pointer (some ⟨bk, 0, none⟩)) := (HKF.out.cell HN2.out.1 HN2.out.2).trans C2.out
        have f1 : wS.frozen? ⟨bk, 1, none⟩ = false := free_blk (HKF.out.blk HLN.out.box HNK.out.2) 1
        have hn1 : (n : Int) ≤ 4096 := by have := HNN.out; omega
        go_wp2_with fail
        go_ret
        exact pledged (p := ⟨pt, pd, pc, py, pa, false⟩) HLN.out HKF.out H16.out HBD.out HB5.out HQ.out rfl
  case true =>
  cases B3
  case true =>
    have HQ := Lib.hid (HK.trans (show _ = (9 : Int) by simp))
    clear HK
    go_wp2_with (first
      | ((with_reducible refine (HMY.out _).mono ?_); rintro e w6 ⟨rfl, hb6⟩; have HB := Lib.hid hb6;  clear hb6)
      | ((with_reducible refine (S4.out _ HB.out).mono ?_); rintro e w7 ⟨rfl, hb7⟩; have HB := Lib.hid (HB.out.trans (hb7.mono HB.out.size));  clear hb7)
      | ((with_reducible refine (S5.out _ HB.out).mono ?_); rintro e w8 ⟨rfl, hb8⟩; have HB := Lib.hid (HB.out.trans (hb8.mono HB.out.size)); have x5 := (C3.out _ HB.out).2.2.2.2.2; obtain ⟨y0, y1⟩ := CK.out _ HB.out; have y2 := C2.out _ HB.out;  clear hb8)
      | ((with_reducible refine (S6.out _ HB.out).mono ?_); rintro e w9 ⟨rfl, hb9⟩; have HB := Lib.hid (HB.out.trans (hb9.mono HB.out.size)); have x5 := (C3.out _ HB.out).2.2.2.2.2; obtain ⟨y0, y1⟩ := CK.out _ HB.out; have y2 := C2.out _ HB.out;  clear hb9)
      | fail)
    go_ret
    exact HUN.out _ _ (HB5.out.trans (HB.out.mono HB5.out.size)) (by rw [HQ.out]; decide) (by rw [HQ.out]; rfl)
  case false =>
    by_cases hn : 4096 ≤ n
    · have tn : decide ((4096 : Int) ≤ (n : Int)) = true := decide_eq_true (by omega)
      have tm : decide (4096 ≤ n) = true := decide_eq_true hn
      have HQ := Lib.hid (HK.trans (show _ = (7 : Int) by simp [hn]))
      clear HK hn
      go_wp2_with (first
        | ((with_reducible refine (HMY.out _).mono ?_); rintro e w6 ⟨rfl, hb6⟩; have HB := Lib.hid hb6;  clear hb6)
        | ((with_reducible refine (S4.out _ HB.out).mono ?_); rintro e w7 ⟨rfl, hb7⟩; have HB := Lib.hid (HB.out.trans (hb7.mono HB.out.size));  clear hb7)
        | ((with_reducible refine (S5.out _ HB.out).mono ?_); rintro e w8 ⟨rfl, hb8⟩; have HB := Lib.hid (HB.out.trans (hb8.mono HB.out.size)); have x5 := (C3.out _ HB.out).2.2.2.2.2; obtain ⟨y0, y1⟩ := CK.out _ HB.out; have y2 := C2.out _ HB.out;  clear hb8)
        | ((with_reducible refine (S6.out _ HB.out).mono ?_); rintro e w9 ⟨rfl, hb9⟩; have HB := Lib.hid (HB.out.trans (hb9.mono HB.out.size)); have x5 := (C3.out _ HB.out).2.2.2.2.2; obtain ⟨y0, y1⟩ := CK.out _ HB.out; have y2 := C2.out _ HB.out;  clear hb9)
        | fail)
      go_ret
      exact HUN.out _ _ (HB5.out.trans (HB.out.mono HB5.out.size)) (by rw [HQ.out]; decide) (by rw [HQ.out]; rfl)
    · have tn : decide ((4096 : Int) ≤ (n : Int)) = false := decide_eq_false (by omega)
      have tm : decide (4096 ≤ n) = false := decide_eq_false hn
      have HQ := Lib.hid (HK.trans (show _ = (0 : Int) by simp [hn]))
      clear HK hn
      go_wp2_with (first
        | ((with_reducible refine (HMY.out _).mono ?_); rintro e w6 ⟨rfl, hb6⟩; have HB := Lib.hid hb6;  clear hb6)
        | ((with_reducible refine (S4.out _ HB.out).mono ?_); rintro e w7 ⟨rfl, hb7⟩; have HB := Lib.hid (HB.out.trans (hb7.mono HB.out.size));  clear hb7)
        | ((with_reducible refine (S5.out _ HB.out).mono ?_); rintro e w8 ⟨rfl, hb8⟩; have HB := Lib.hid (HB.out.trans (hb8.mono HB.out.size)); have x5 := (C3.out _ HB.out).2.2.2.2.2; obtain ⟨y0, y1⟩ := CK.out _ HB.out; have y2 := C2.out _ HB.out;  clear hb8)
        | ((with_reducible refine (S6.out _ HB.out).mono ?_); rintro e w9 ⟨rfl, hb9⟩; have HB := Lib.hid (HB.out.trans (hb9.mono HB.out.size)); have x5 := (C3.out _ HB.out).2.2.2.2.2; obtain ⟨y0, y1⟩ := CK.out _ HB.out; have y2 := C2.out _ HB.out;  clear hb9)
        | fail)
      clear x5 y0 y1 y2 tn tm
      generalize w9 = wc at *
      have HLN := Lib.hid (HL5.out.below HB.out)
      have HROW := Lib.hid (HLN.out.row pt)
      have HNE : Hid (∀ k, (rowV es pt).ownBlock = some k → k ≠ bm) := Lib.hid (fun k hk => (HLN.out.rowB hk).2.2)
      have hF : ∀ b, w.heap.size ≤ b → ¬ (b = bm ∨ (rowV es pt).ownBlock = some b) := fun b hb hx => by
        rcases hx with rfl | hx
        · have := HLT.out _ HLN.out.fm; omega
        · have := HLT.out _ (HLN.out.rowB hx).1; omega
      have HN2 : Hid (b2 < wc.heap.size ∧ ¬ (b2 = bm ∨ (rowV es pt).ownBlock = some b2)) := Lib.hid ⟨Nat.lt_of_lt_of_le (lt_blk H2.out) HB.out.size, hF _ HX2.out.1⟩
      have HN3 : Hid (b3 < wc.heap.size ∧ ¬ (b3 = bm ∨ (rowV es pt).ownBlock = some b3)) := Lib.hid ⟨Nat.lt_of_lt_of_le (lt_blk H3.out) HB.out.size, hF _ HX2.out.2⟩
      have HNK : Hid (bk < wc.heap.size ∧ ¬ (bk = bm ∨ (rowV es pt).ownBlock = some bk)) := Lib.hid ⟨HLN.out.lt _ HLN.out.fk, fun hx => hx.elim (fun e => HLN.out.ne e.symm) (fun e => (HLN.out.rowB e).2.1 rfl)⟩
      have HKB : Hid (∀ W, Keep (fun k => k = bm ∨ (rowV es pt).ownBlock = some k) wc W → W.cell? ⟨bk, 0, none⟩ = some (.map (some bm)) ∧ W.cell? ⟨bk, 1, none⟩ = some (.int .i64 (n : Int))) := Lib.hid (fun W k => ⟨(k.cell HNK.out.1 HNK.out.2).trans (CK.out _ HB.out).1, (k.cell HNK.out.1 HNK.out.2).trans (CK.out _ HB.out).2⟩)
      have CK := Lib.hid (CK.out _ HB.out).1
      have C2 := Lib.hid (C2.out _ HB.out)
      have C3 := Lib.hid (C3.out _ HB.out)
      have HL : Hid ((R pt).length + 1 ≤ maxLen ∧ ((R pt).length + 1) * 72 ≤ 140737488355328) := Lib.hid (by have h1 := HNN.out.1; have h2 := HNN.out.2 pt; simp only [maxLen]; omega)
      have HB5 := Lib.hid (HB5.out.trans (HB.out.mono HB5.out.size))
      clear hF S4 S5 S6 HUN HMY
      refine Ord.region_lit (fun
        | 0 => Ord.val (.pointer (some ⟨bk, 0, none⟩))
        | 1 => Ord.val (.pointer (some ⟨bk, 0, none⟩))
        | 2 => Ord.val (.pointer (some ⟨bk, 0, none⟩))
        | 3 => Ord.val (.map (some bm))
        | 4 => Ord.val (.pointer (some ⟨b3, 0, none⟩))
        | 5 => Ord.val (.string pt)
        | 6 => Ord.val (.pointer (some ⟨bk, 0, none⟩))
        | 7 => Ord.val (.pointer (some ⟨bk, 0, none⟩))
        | 8 => Ord.val (.pointer (some ⟨bk, 0, none⟩))
        | 9 => Ord.val (.map (some bm))
        | 10 => Ord.val (.pointer (some ⟨b3, 0, none⟩))
        | 11 => Ord.val (.string pt)
        | 12 => Ord.val (rowV es pt)
        | 13 => Ord.val (.agg #[.string pt, .string pd, .string pc, .int .i64 py, .int .i64 pa, .bool true])
        | 14 => Ord.one 27 #[.string pt, .string pd, .string pc, .int .i64 py, .int .i64 pa, .bool true]
        | 15 => Ord.grown 27 6 ((R pt).length + 1) (pgCells (R pt) ++ [.string pt, .string pd, .string pc, .int .i64 py, .int .i64 pa, .bool true]) 14 (rowV es pt)
        | 16 => Ord.laid 27 6 ((R pt).length + 1) (pgCells (R pt) ++ [.string pt, .string pd, .string pc, .int .i64 py, .int .i64 pa, .bool true]) bm es pt 15
        | _ => Ord.idle) (fun k => k = bm ∨ (rowV es pt).ownBlock = some k) (by kernel_rfl) (by kernel_rfl) (by kernel_rfl) ?_ ?_ ?_ ?_
      · intro i _
        match i with
        | 0 => exact Ord.lasts_val _
        | 1 => exact Ord.lasts_val _
        | 2 => exact Ord.lasts_val _
        | 3 => exact Ord.lasts_val _
        | 4 => exact Ord.lasts_val _
        | 5 => exact Ord.lasts_val _
        | 6 => exact Ord.lasts_val _
        | 7 => exact Ord.lasts_val _
        | 8 => exact Ord.lasts_val _
        | 9 => exact Ord.lasts_val _
        | 10 => exact Ord.lasts_val _
        | 11 => exact Ord.lasts_val _
        | 12 => exact Ord.lasts_val _
        | 13 => exact Ord.lasts_val _
        | 14 => exact Ord.lasts_one _ _
        | 15 => exact Ord.lasts_grown _ _ _ _ _ _
        | 16 => exact Ord.lasts_laid _ _ _ _ _ _ _ _
        | n + 17 => exact Ord.lasts_idle
      · refine ⟨fun k b _ hh => ?_, fun k b _ hh => ?_, fun k k' b _ _ hne h1 h2 => ?_⟩
        · match k, hh with
          | 0, hh => exact hh.elim
          | 1, hh => exact hh.elim
          | 2, hh => exact hh.elim
          | 3, hh => exact hh.elim
          | 4, hh => exact hh.elim
          | 5, hh => exact hh.elim
          | 6, hh => exact hh.elim
          | 7, hh => exact hh.elim
          | 8, hh => exact hh.elim
          | 9, hh => exact hh.elim
          | 10, hh => exact hh.elim
          | 11, hh => exact hh.elim
          | 12, hh => exact hh.elim
          | 13, hh => exact hh.elim
          | 14, hh => exact hh.elim
          | 15, hh => exact .inr hh
          | 16, hh => exact .inl hh
          | m + 17, hh => exact hh.elim
        · match k, hh with
          | 0, hh => exact hh.elim
          | 1, hh => exact hh.elim
          | 2, hh => exact hh.elim
          | 3, hh => exact hh.elim
          | 4, hh => exact hh.elim
          | 5, hh => exact hh.elim
          | 6, hh => exact hh.elim
          | 7, hh => exact hh.elim
          | 8, hh => exact hh.elim
          | 9, hh => exact hh.elim
          | 10, hh => exact hh.elim
          | 11, hh => exact hh.elim
          | 12, hh => exact hh.elim
          | 13, hh => exact hh.elim
          | 14, hh => exact hh.elim
          | 15, hh => exact (HROW.out.lt b hh).2
          | 16, hh => exact hh ▸ HLN.out.map.lt
          | m + 17, hh => exact hh.elim
        · have a : (k = 15 ∧ (fun k => (rowV es pt).ownBlock = some k) b) ∨ (k = 16 ∧ (fun k => k = bm) b) := by
            match k, h1 with
            | 0, hh => exact hh.elim
            | 1, hh => exact hh.elim
            | 2, hh => exact hh.elim
            | 3, hh => exact hh.elim
            | 4, hh => exact hh.elim
            | 5, hh => exact hh.elim
            | 6, hh => exact hh.elim
            | 7, hh => exact hh.elim
            | 8, hh => exact hh.elim
            | 9, hh => exact hh.elim
            | 10, hh => exact hh.elim
            | 11, hh => exact hh.elim
            | 12, hh => exact hh.elim
            | 13, hh => exact hh.elim
            | 14, hh => exact hh.elim
            | 15, hh => exact .inl ⟨rfl, hh⟩
            | 16, hh => exact Or.inr (⟨rfl, hh⟩)
            | m + 17, hh => exact hh.elim
          have a' : (k' = 15 ∧ (fun k => (rowV es pt).ownBlock = some k) b) ∨ (k' = 16 ∧ (fun k => k = bm) b) := by
            match k', h2 with
            | 0, hh => exact hh.elim
            | 1, hh => exact hh.elim
            | 2, hh => exact hh.elim
            | 3, hh => exact hh.elim
            | 4, hh => exact hh.elim
            | 5, hh => exact hh.elim
            | 6, hh => exact hh.elim
            | 7, hh => exact hh.elim
            | 8, hh => exact hh.elim
            | 9, hh => exact hh.elim
            | 10, hh => exact hh.elim
            | 11, hh => exact hh.elim
            | 12, hh => exact hh.elim
            | 13, hh => exact hh.elim
            | 14, hh => exact hh.elim
            | 15, hh => exact .inl ⟨rfl, hh⟩
            | 16, hh => exact Or.inr (⟨rfl, hh⟩)
            | m + 17, hh => exact hh.elim
          rcases a with ⟨rfl, a⟩ | ⟨rfl, a⟩ <;> rcases a' with ⟨rfl, a'⟩ | ⟨rfl, a'⟩
          all_goals first | exact absurd rfl hne | (first | exact HNE.out _ a a' | exact HNE.out _ a' a)
      · refine ⟨?_, ?_, ?_, ?_, ?_, ?_, ?_, ?_, ?_, ?_, ?_, ?_, ?_, ?_, ?_, ?_, ?_, trivial⟩
        · refine Ord.owes_plain rfl fun ρ Os wo hs' hb hc' => ?_
          have h2 : ρ (.tmp 2) = .pointer (some ⟨b2, 0, none⟩) := hs'.old' 2 (by kernel_rfl)
          have c0 : wo.cell? ⟨b2, 0, none⟩ = some (.pointer (some ⟨bk, 0, none⟩)) := (hb.cell HN2.out.1 HN2.out.2).trans C2.out
          go_simp
          exact Ord.post_val rfl rfl
        · refine Ord.owes_plain rfl fun ρ Os wo hs' hb hc' => ?_
          have h31 : ρ (.tmp 31) = .pointer (some ⟨bk, 0, none⟩) := hs'.val' 31 0 (by kernel_rfl) rfl
          go_simp
          exact Ord.post_val rfl rfl
        · refine Ord.owes_plain rfl fun ρ Os wo hs' hb hc' => ?_
          have h32 : ρ (.tmp 32) = .pointer (some ⟨bk, 0, none⟩) := hs'.val' 32 1 (by kernel_rfl) rfl
          go_simp
          exact Ord.post_val rfl rfl
        · refine Ord.owes_plain rfl fun ρ Os wo hs' hb hc' => ?_
          have h33 : ρ (.tmp 33) = .pointer (some ⟨bk, 0, none⟩) := hs'.val' 33 2 (by kernel_rfl) rfl
          have c0 : wo.cell? ⟨bk, 0, none⟩ = some (.map (some bm)) := (hb.cell HNK.out.1 HNK.out.2).trans CK.out
          go_simp
          exact Ord.post_val rfl rfl
        · refine Ord.owes_plain rfl fun ρ Os wo hs' hb hc' => ?_
          have h3 : ρ (.tmp 3) = .pointer (some ⟨b3, 0, none⟩) := hs'.old' 3 (by kernel_rfl)
          go_simp
          exact Ord.post_val rfl rfl
        · refine Ord.owes_plain rfl fun ρ Os wo hs' hb hc' => ?_
          have h35 : ρ (.tmp 35) = .pointer (some ⟨b3, 0, none⟩) := hs'.val' 35 4 (by kernel_rfl) rfl
          have c0 : wo.cell? ⟨b3, 0, none⟩ = some (.string pt) := (hb.cell HN3.out.1 HN3.out.2).trans C3.out.1
          go_simp
          exact Ord.post_val rfl rfl
        · refine Ord.owes_plain rfl fun ρ Os wo hs' hb hc' => ?_
          have h2 : ρ (.tmp 2) = .pointer (some ⟨b2, 0, none⟩) := hs'.old' 2 (by kernel_rfl)
          have c0 : wo.cell? ⟨b2, 0, none⟩ = some (.pointer (some ⟨bk, 0, none⟩)) := (hb.cell HN2.out.1 HN2.out.2).trans C2.out
          go_simp
          exact Ord.post_val rfl rfl
        · refine Ord.owes_plain rfl fun ρ Os wo hs' hb hc' => ?_
          have h37 : ρ (.tmp 37) = .pointer (some ⟨bk, 0, none⟩) := hs'.val' 37 6 (by kernel_rfl) rfl
          go_simp
          exact Ord.post_val rfl rfl
        · refine Ord.owes_plain rfl fun ρ Os wo hs' hb hc' => ?_
          have h38 : ρ (.tmp 38) = .pointer (some ⟨bk, 0, none⟩) := hs'.val' 38 7 (by kernel_rfl) rfl
          go_simp
          exact Ord.post_val rfl rfl
        · refine Ord.owes_plain rfl fun ρ Os wo hs' hb hc' => ?_
          have h39 : ρ (.tmp 39) = .pointer (some ⟨bk, 0, none⟩) := hs'.val' 39 8 (by kernel_rfl) rfl
          have c0 : wo.cell? ⟨bk, 0, none⟩ = some (.map (some bm)) := (hb.cell HNK.out.1 HNK.out.2).trans CK.out
          go_simp
          exact Ord.post_val rfl rfl
        · refine Ord.owes_plain rfl fun ρ Os wo hs' hb hc' => ?_
          have h3 : ρ (.tmp 3) = .pointer (some ⟨b3, 0, none⟩) := hs'.old' 3 (by kernel_rfl)
          go_simp
          exact Ord.post_val rfl rfl
        · refine Ord.owes_plain rfl fun ρ Os wo hs' hb hc' => ?_
          have h41 : ρ (.tmp 41) = .pointer (some ⟨b3, 0, none⟩) := hs'.val' 41 10 (by kernel_rfl) rfl
          have c0 : wo.cell? ⟨b3, 0, none⟩ = some (.string pt) := (hb.cell HN3.out.1 HN3.out.2).trans C3.out.1
          go_simp
          exact Ord.post_val rfl rfl
        · refine Ord.owes_plain rfl fun ρ Os wo hs' hb hc' => ?_
          have h40 : ρ (.tmp 40) = .map (some bm) := hs'.val' 40 9 (by kernel_rfl) rfl
          have h42 : ρ (.tmp 42) = .string pt := hs'.val' 42 11 (by kernel_rfl) rfl
          have hm : Mp.MapAt wo bm es := HLN.out.map.same (hs'.early' 16 (by kernel_rfl) bm rfl)
          exact Mp.ok_lookup (l := es) (key := pt) Tryz.underlying47 Tryz.underlying9 (zeroRow _) h40 h42 hm (Ord.post_val rfl (look_row es pt))
        · refine Ord.owes_plain rfl fun ρ Os wo hs' hb hc' => ?_
          have h3 : ρ (.tmp 3) = .pointer (some ⟨b3, 0, none⟩) := hs'.old' 3 (by kernel_rfl)
          have c0 := (hb.cell (o := 0) HN3.out.1 HN3.out.2).trans C3.out.1
          have c1 := (hb.cell (o := 1) HN3.out.1 HN3.out.2).trans C3.out.2.1
          have c2 := (hb.cell (o := 2) HN3.out.1 HN3.out.2).trans C3.out.2.2.1
          have c3 := (hb.cell (o := 3) HN3.out.1 HN3.out.2).trans C3.out.2.2.2.1
          have c4 := (hb.cell (o := 4) HN3.out.1 HN3.out.2).trans C3.out.2.2.2.2.1
          have c5 := (hb.cell (o := 5) HN3.out.1 HN3.out.2).trans C3.out.2.2.2.2.2
          go_simp
          exact Ord.post_val rfl rfl
        · refine Ord.owes_plain rfl fun ρ Os wo hs' hb hc' => ?_
          have h44 : ρ (.tmp 44) = .agg #[.string pt, .string pd, .string pc, .int .i64 py, .int .i64 pa, .bool true] := hs'.val' 44 13 (by kernel_rfl) rfl
          go_simp
          exact Ord.post_one rfl
        · refine Ord.owes_plain rfl fun ρ Os wo hs' hb hc' => ?_
          have h43 : ρ (.tmp 43) = rowV es pt := hs'.val' 43 12 (by kernel_rfl) rfl
          exact Ord.ok_grown Tryz.underlying22 HI.out.1 HI.out.2.1 HI.out.2.2.1 HI.out.2.2.2 rfl (by decide) h43 (hs'.new' 45 14 (by kernel_rfl)) HROW.out hs'.here rfl (pg_one ⟨pt, pd, pc, py, pa, true⟩) HL.out.1 HL.out.2 rfl
        · refine Ord.owes_plain rfl fun ρ Os wo hs' hb hc' => ?_
          have h34 : ρ (.tmp 34) = .map (some bm) := hs'.val' 34 3 (by kernel_rfl) rfl
          have h36 : ρ (.tmp 36) = .string pt := hs'.val' 36 5 (by kernel_rfl) rfl
          exact Ord.ok_laid Tryz.underlying47 Tryz.underlying9 h34 h36 (hs'.new' 46 15 (by kernel_rfl)) HLN.out.map (hs'.here bm rfl) rfl
      · intro vals Os ρs wS hk hkn hln hap hbd
        have h16 := hkn 16 (by kernel_rfl)
        have hbd16 := hbd 16 (by kernel_rfl)
        clear hkn hln hap hbd
        have HKF := Lib.hid hk
        have H16 := Lib.hid h16
        have HBD := Lib.hid hbd16
        clear hk h16 hbd16
        obtain ⟨y0, y1⟩ := HKB.out wS HKF.out
        have y2 : wS.cell? ⟨b2, 0, none⟩ = some (.pointer (some ⟨bk, 0, none⟩)) := (HKF.out.cell HN2.out.1 HN2.out.2).trans C2.out
        have f1 : wS.frozen? ⟨bk, 1, none⟩ = false := free_blk (HKF.out.blk HLN.out.box HNK.out.2) 1
        have hn1 : (n : Int) ≤ 4096 := by have := HNN.out; omega
        go_wp2_with fail
        go_ret
        exact pledged (p := ⟨pt, pd, pc, py, pa, true⟩) HLN.out HKF.out H16.out HBD.out HB5.out HQ.out rfl
end Go.Proofs.YtbigoifpfkdkjaaGreat.Sc
