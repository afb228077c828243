/- Lots stored, by the program. -/
import Derived.Test.YticnmmfiadpbbaaGreatPutH25
namespace Go.Proofs.YticnmmfiadpbbaaGreat.Sc
open Go Go.RowKit Go.ChangeShapes Go.WideShapes Go.ChangeAt
set_option maxRecDepth 100000

theorem zeroBool (w : World) : (zeroValue 4).run Tryz.prog w = .ok (.bool false) w := by kernel_rfl
theorem look_used {w : World} {bh bm bu : Nat} {h : Hs} {es us : Mp.Ents} (H : HsAt w bh bm bu h es us) (n : ByteArray) : Mp.look false (Mp.mget us n) (.bool false) = .bool (memB n h.used) := by
  rw [H.uses]
  cases memB n h.used <;> rfl
abbrev B1 (w : World) (b : Nat) (x : Value) (T : TypeId) : Prop := w.heap[b]? = some (.cells #[x] T (0, 0))
set_option maxHeartbeats 2000000 in
theorem store1 (n who : ByteArray) (l : List Lt) (vl : Value) (b6 b7 b9 : Nat) (W : World) (h6 : B1 W b6 (.string n) 9) (h7 : B1 W b7 (.string who) 9) (h9 : B1 W b9 vl 32) (hs : Sl W 2 vl (l.map Lt.row)) :
    Calls Tryz.prog 28 #[.pointer (some ⟨b6, 0, none⟩), .pointer (some ⟨b7, 0, none⟩), .pointer (some ⟨b9, 0, none⟩)] W (RetB W (!(nameOk n && (nameOk who && lotsOk l)))) := by
  have HN1 := Lib.hid (fun W => rcName_any n W)
  have HN2 := Lib.hid (fun W => rcName_any who W)
  have HLO := Lib.hid (fun W' (hW : Below W.heap.size W W') => lotsMay_any l vl W' (hs.below hW (Nat.le_refl _)))
  obtain ⟨al, cl, rfl⟩ : ∃ a c, vl = .slice a l.length c := by simpa using hs.shape
  have H7 := Lib.hid h7
  have H9 := Lib.hid h9
  have c6 := cell_blk h6 0
  simp only [List.getElem?_toArray, List.getElem?_cons_zero] at c6
  generalize nameOk n = P at *
  generalize nameOk who = Q at *
  generalize lotsOk l = R at *
  clear h6 h7 h9 hs
  cases P
  · go_enter Tryz.func28, Tryz.ntmps28
    go_wp2_with (first
      | ((with_reducible refine (HN1.out _).mono ?_); rintro e w1 ⟨rfl, hb1⟩; have HB1 := Lib.hid hb1; clear hb1)
      | fail)
    go_ret
    exact retB rfl HB1.out
  cases Q
  · go_enter Tryz.func28, Tryz.ntmps28
    go_wp2_with (first
      | ((with_reducible refine (HN1.out _).mono ?_); rintro e w1 ⟨rfl, hb1⟩; have HB1 := Lib.hid hb1; have c7 := cell_blk (blk hb1 (lt_blk H7.out) H7.out) 0; simp only [List.getElem?_toArray, List.getElem?_cons_zero] at c7; clear hb1)
      | ((with_reducible refine (HN2.out _).mono ?_); rintro e w2 ⟨rfl, hb2⟩; have HB2 := Lib.hid (HB1.out.trans (hb2.mono HB1.out.size)); clear hb2)
      | fail)
    go_ret
    exact retB rfl HB2.out
  go_enter Tryz.func28, Tryz.ntmps28
  go_wp2_with (first
    | ((with_reducible refine (HN1.out _).mono ?_); rintro e w1 ⟨rfl, hb1⟩; have HB1 := Lib.hid hb1; have c7 := cell_blk (blk hb1 (lt_blk H7.out) H7.out) 0; simp only [List.getElem?_toArray, List.getElem?_cons_zero] at c7; clear hb1)
    | ((with_reducible refine (HN2.out _).mono ?_); rintro e w2 ⟨rfl, hb2⟩; have HB2 := Lib.hid (HB1.out.trans (hb2.mono HB1.out.size)); have c9 := cell_blk (blk HB2.out (lt_blk H9.out) H9.out) 0; simp only [List.getElem?_toArray, List.getElem?_cons_zero] at c9; clear hb2)
    | ((with_reducible refine (HLO.out _ HB2.out).mono ?_); rintro e w3 ⟨rfl, hb3⟩; have HB3 := Lib.hid (HB2.out.trans (hb3.mono HB2.out.size)); clear hb3)
    | fail)
  go_ret
  exact retB (by cases R <;> rfl) HB3.out
set_option maxHeartbeats 1000000 in
theorem store2 (d : Int) (b8 : Nat) (W : World) (h8 : B1 W b8 (.int .i64 d) 3) : Calls Tryz.prog 31 #[.pointer (some ⟨b8, 0, none⟩)] W (RetB W (!(decide (0 ≤ d) && decide (d ≤ 1048576)))) := by
  have c8 := cell_blk h8 0
  simp only [List.getElem?_toArray, List.getElem?_cons_zero] at c8
  go_enter Tryz.func31, Tryz.ntmps31
  go_wp2
  all_goals
    go_ret
    exact retB (by rw [Bool.eq_iff_iff]; simp <;> omega) (Below.refl _ _)
set_option maxHeartbeats 1000000 in
theorem store3 {bh bm bu : Nat} {h : Hs} {es us : Mp.Ents} (n : ByteArray) (b5 b6 : Nat) (W : World) (H : HsAt W bh bm bu h es us) (h5 : B1 W b5 (.pointer (some ⟨bh, 0, none⟩)) 25) (h6 : B1 W b6 (.string n) 9) :
    Calls Tryz.prog 32 #[.pointer (some ⟨b5, 0, none⟩), .pointer (some ⟨b6, 0, none⟩)] W (RetB W (memB n h.used)) := by
  have HGT := Lib.hid (look_used H n)
  have H5 := Lib.hid h5
  have H6 := Lib.hid h6
  have HBX := Lib.hid H.box
  have HUM := Lib.hid H.um
  generalize memB n h.used = MB at *
  clear h5 h6 H
  go_enter Tryz.func32, Tryz.ntmps32
  go_wp2_with fail
  refine Any.region_lit (fun
    | 0 => Any.val (.pointer (some ⟨bh, 0, none⟩))
    | 1 => Any.val (.pointer (some ⟨bh, 0, none⟩))
    | 2 => Any.val (.pointer (some ⟨bh, 2, none⟩))
    | 3 => Any.val (.map (some bu))
    | 4 => Any.val (.string n)
    | 5 => Any.val (.bool MB)
    | 6 => Any.val (.bool MB)
    | _ => Any.idle) (by kernel_rfl) (by kernel_rfl) (by kernel_rfl) ?_ ?_ ?_
  · intro i _
    match i with
    | 0 => exact Any.lasts_val _
    | 1 => exact Any.lasts_val _
    | 2 => exact Any.lasts_val _
    | 3 => exact Any.lasts_val _
    | 4 => exact Any.lasts_val _
    | 5 => exact Any.lasts_val _
    | 6 => exact Any.lasts_val _
    | n + 7 => exact Any.lasts_idle
  · refine ⟨?_, ?_, ?_, ?_, ?_, ?_, ?_, trivial⟩
    · refine Any.owes_plain rfl fun ρ wo hs' hb hc' => ?_
      have h0 : ρ (.tmp 0) = .pointer (some ⟨b5, 0, none⟩) := hs'.old' 0 (by kernel_rfl)
      have c0 := cell_blk (blk (below_undrew hb) (lt_blk H5.out) H5.out) 0
      simp only [List.getElem?_toArray, List.getElem?_cons_zero] at c0
      go_simp
      exact Any.post_val hb rfl rfl
    · refine Any.owes_plain rfl fun ρ wo hs' hb hc' => ?_
      have h3 : ρ (.tmp 3) = .pointer (some ⟨bh, 0, none⟩) := hs'.new' 3 0 (by kernel_rfl)
      go_simp
      exact Any.post_val hb rfl rfl
    · refine Any.owes_plain rfl fun ρ wo hs' hb hc' => ?_
      have h4 : ρ (.tmp 4) = .pointer (some ⟨bh, 0, none⟩) := hs'.new' 4 1 (by kernel_rfl)
      go_simp
      exact Any.post_val hb rfl rfl
    · refine Any.owes_plain rfl fun ρ wo hs' hb hc' => ?_
      have h5 : ρ (.tmp 5) = .pointer (some ⟨bh, 2, none⟩) := hs'.new' 5 2 (by kernel_rfl)
      have c0 := cell_blk (blk (below_undrew hb) (lt_blk HBX.out) HBX.out) 2
      simp only [List.getElem?_toArray, List.getElem?_cons_succ, List.getElem?_cons_zero] at c0
      go_simp
      exact Any.post_val hb rfl rfl
    · refine Any.owes_plain rfl fun ρ wo hs' hb hc' => ?_
      have h1 : ρ (.tmp 1) = .pointer (some ⟨b6, 0, none⟩) := hs'.old' 1 (by kernel_rfl)
      have c0 := cell_blk (blk (below_undrew hb) (lt_blk H6.out) H6.out) 0
      simp only [List.getElem?_toArray, List.getElem?_cons_zero] at c0
      go_simp
      exact Any.post_val hb rfl rfl
    · refine Any.owes_plain rfl fun ρ wo hs' hb hc' => ?_
      have h6 : ρ (.tmp 6) = .map (some bu) := hs'.new' 6 3 (by kernel_rfl)
      have h7 : ρ (.tmp 7) = .string n := hs'.new' 7 4 (by kernel_rfl)
      refine Mp.ok_lookup Tryz.underlying59 Tryz.underlying9 (zeroBool _) (h6.trans rfl) (h7.trans rfl) (HUM.out.same ((below_undrew hb).block _ HUM.out.lt)) ?_
      rw [HGT.out]
      exact Any.post_val hb rfl rfl
    · refine Any.owes_plain rfl fun ρ wo hs' hb hc' => ?_
      have h8 : ρ (.tmp 8) = .bool MB := hs'.new' 8 5 (by kernel_rfl)
      exact Any.ok_assign (Any.post_val hb rfl h8)
  intro vals w5 hb hk ha
  have h6 : vals 6 = .bool MB := hk 6 (by kernel_rfl)
  have HB5 := Lib.hid hb
  clear hk ha hb
  simp only [Any.putAll]
  go_frame
  simp only [Nat.zero_add, Nat.reduceAdd]
  rw [h6]
  clear h6
  go_wp2_with fail
  go_ret
  exact retB rfl HB5.out
set_option maxHeartbeats 1000000 in
theorem store4 {bh bm bu : Nat} {h : Hs} {es us : Mp.Ents} (l : List Lt) (vl : Value) (b5 b9 : Nat) (W : World) (H : HsAt W bh bm bu h es us) (h5 : B1 W b5 (.pointer (some ⟨bh, 0, none⟩)) 25) (h9 : B1 W b9 vl 32) (hs : Sl W 2 vl (l.map Lt.row)) (hul : h.used.length ≤ 900000) :
    Calls Tryz.prog 33 #[.pointer (some ⟨b5, 0, none⟩), .pointer (some ⟨b9, 0, none⟩)] W (RetB W (decide (4096 ≤ h.used.length) || decide (64 < l.length))) := by
  obtain ⟨al, cl, rfl⟩ : ∃ a c, vl = .slice a l.length c := by simpa using hs.shape
  have hll : l.length ≤ 9223372036854775807 := by have := hs.len_le; simp only [List.length_map, maxLen] at this; omega
  have c5 := cell_blk h5 0
  have c9 := cell_blk h9 0
  have x2 := cell_blk H.box 2
  simp only [List.getElem?_toArray, List.getElem?_cons_succ, List.getElem?_cons_zero] at c5 c9 x2
  have HUM := Lib.hid H.um
  have hue := H.ul
  obtain ⟨uL, huL⟩ : ∃ u, u = us.length := ⟨_, rfl⟩
  have HUE : Hid (h.used.length = uL) := Lib.hid (by rw [huL]; exact hue.symm)
  have HEQ := Lib.hid huL
  rw [HUE.out] at hul ⊢
  clear hue huL hs h5 h9 H
  have hul' : uL ≤ 9223372036854775807 := by omega
  by_cases h1 : 4096 ≤ uL
  · have t1 : decide ((4096 : Int) ≤ (uL : Int)) = true := decide_eq_true (by omega)
    have HQ : Hid ((decide (4096 ≤ uL) || decide (64 < l.length)) = true) := Lib.hid (by rw [decide_eq_true h1]; rfl)
    clear h1
    go_enter Tryz.func33, Tryz.ntmps33
    go_wp2_with (first
      | ((with_reducible refine Mp.wpl_len (b := bu) (l := us) ?_ ?_ Tryz.underlying59 HUM.out ?_); rfl; rfl; rw [← HEQ.out])
      | fail)
    go_ret
    exact retB HQ.out.symm (Below.refl _ _)
  · have t1 : decide ((4096 : Int) ≤ (uL : Int)) = false := decide_eq_false (by omega)
    have HQ : Hid ((decide (4096 ≤ uL) || decide (64 < l.length)) = decide ((64 : Int) < (l.length : Int))) := Lib.hid (by rw [decide_eq_false h1, Bool.false_or]; congr 1; apply propext; omega)
    clear h1
    go_enter Tryz.func33, Tryz.ntmps33
    go_wp2_with (first
      | ((with_reducible refine Mp.wpl_len (b := bu) (l := us) ?_ ?_ Tryz.underlying59 HUM.out ?_); rfl; rfl; rw [← HEQ.out])
      | fail)
    go_ret
    exact retB (by rw [HQ.out]) (Below.refl _ _)
theorem st_ent1 (args : Array Value) (w : World) : (callFunc 28 args).run Tryz.prog w = .ok (.enter 28 args) w := enters_of Tryz.func28 (by kernel_rfl) rfl args w
theorem st_ent2 (args : Array Value) (w : World) : (callFunc 31 args).run Tryz.prog w = .ok (.enter 31 args) w := enters_of Tryz.func31 (by kernel_rfl) rfl args w
theorem st_ent3 (args : Array Value) (w : World) : (callFunc 32 args).run Tryz.prog w = .ok (.enter 32 args) w := enters_of Tryz.func32 (by kernel_rfl) rfl args w
theorem st_ent4 (args : Array Value) (w : World) : (callFunc 33 args).run Tryz.prog w = .ok (.enter 33 args) w := enters_of Tryz.func33 (by kernel_rfl) rfl args w
/-- A value of a row of at most six, by its number. -/
def sel {α : Type} (a b c d e f : α) : Nat → α
  | 0 => a
  | 1 => b
  | 2 => c
  | 3 => d
  | 4 => e
  | _ => f
/-- New blocks, one behind the other. -/
theorem allocs : ∀ (l : List Obj) (w : World), Below w.heap.size w (l.foldl World.alloc w) ∧ (l.foldl World.alloc w).heap.size = w.heap.size + l.length ∧ ∀ i o, l[i]? = some o → (l.foldl World.alloc w).heap[w.heap.size + i]? = some o
  | [], w => ⟨Below.refl _ _, rfl, fun i o h => by simp at h⟩
  | a :: l, w => by
    obtain ⟨h1, h2, h3⟩ := allocs l (w.alloc a)
    have e : (w.alloc a).heap.size = w.heap.size + 1 := by simp
    refine ⟨below_then (one_below w a) h1, by rw [List.foldl_cons, h2, e, List.length_cons]; omega, fun i o h => ?_⟩
    cases i with
    | zero =>
      obtain rfl : a = o := by simpa using h
      exact (h1.block w.heap.size (by omega)).trans (heap_alloc_new w a)
    | succ i =>
      have := h3 i o (by simpa using h)
      rw [e] at this
      rw [List.foldl_cons, show w.heap.size + (i + 1) = w.heap.size + 1 + i by omega]
      exact this
def st1 (h : Hs) (n who : ByteArray) (d : Int) (l : List Lt) : Nat → Bool := sel (!(nameOk n && (nameOk who && lotsOk l))) (!(decide (0 ≤ d) && decide (d ≤ 1048576))) (memB n h.used) (decide (4096 ≤ h.used.length) || decide (64 < l.length)) false false
theorem st_code (h : Hs) (n who : ByteArray) (d : Int) (l : List Lt) : firstFrom (sel 1 3 5 7 0 0) (st1 h n who d l) 4 0 = storeC h n who d l := by
  unfold storeC
  simp only [firstFrom, st1, sel]
  generalize (nameOk n && (nameOk who && lotsOk l)) = a
  generalize (decide (0 ≤ d) && decide (d ≤ 1048576)) = b
  generalize memB n h.used = c
  generalize (decide (4096 ≤ h.used.length) || decide (64 < l.length)) = e
  cases a <;> cases b <;> cases c <;> cases e <;> rfl
set_option maxHeartbeats 4000000 in
theorem storeH_any {k bh bm bu : Nat} {h : Hs} (n who : ByteArray) (d : Int) (l : List Lt) (vl : Value) (w : World) (H : Hsx w bh bm bu h) (hok : HsOk k h) (hs : Sl w 2 vl (l.map Lt.row)) (hul : h.used.length ≤ 900000) :
    Calls Tryz.prog 14 #[.pointer (some ⟨bh, 0, none⟩), .string n, .string who, .int .i64 d, vl] w (HsP w bh bm bu (storeH h n who d l) (storeC h n who d l)) := by
  obtain ⟨al, cl, rfl⟩ : ∃ a c, vl = .slice a l.length c := by simpa using hs.shape
  obtain ⟨c1, hc1⟩ : ∃ c, c = (#[.pointer (some ⟨w.heap.size + 1, 0, none⟩), .pointer (some ⟨w.heap.size + 2, 0, none⟩), .pointer (some ⟨w.heap.size + 4, 0, none⟩)] : Array Value) := ⟨_, rfl⟩
  obtain ⟨c2, hc2⟩ : ∃ c, c = (#[.pointer (some ⟨w.heap.size + 3, 0, none⟩)] : Array Value) := ⟨_, rfl⟩
  obtain ⟨c3, hc3⟩ : ∃ c, c = (#[.pointer (some ⟨w.heap.size, 0, none⟩), .pointer (some ⟨w.heap.size + 1, 0, none⟩)] : Array Value) := ⟨_, rfl⟩
  obtain ⟨c4, hc4⟩ : ∃ c, c = (#[.pointer (some ⟨w.heap.size, 0, none⟩), .pointer (some ⟨w.heap.size + 4, 0, none⟩)] : Array Value) := ⟨_, rfl⟩
  have HA := allocs [.cells #[.pointer (some ⟨bh, 0, none⟩)] 25, .cells #[.string n] 9, .cells #[.string who] 9, .cells #[.int .i64 d] 3, .cells #[.slice al l.length cl] 32,
    .cells #[.int .i64 1, .func (.func 28) #[] c1, .int .i64 3, .func (.func 31) #[] c2, .int .i64 5, .func (.func 32) #[] c3, .int .i64 7, .func (.func 33) #[] c4] 71] w
  simp only [List.foldl_cons, List.foldl_nil, List.length_cons, List.length_nil] at HA
  obtain ⟨W0, hW0⟩ : ∃ W, W = (((((w.alloc (.cells #[.pointer (some ⟨bh, 0, none⟩)] 25)).alloc (.cells #[.string n] 9)).alloc (.cells #[.string who] 9)).alloc (.cells #[.int .i64 d] 3)).alloc (.cells #[.slice al l.length cl] 32)).alloc
    (.cells #[.int .i64 1, .func (.func 28) #[] c1, .int .i64 3, .func (.func 31) #[] c2, .int .i64 5, .func (.func 32) #[] c3, .int .i64 7, .func (.func 33) #[] c4] 71) := ⟨_, rfl⟩
  rw [← hW0] at HA
  obtain ⟨hb, hz, hx⟩ := HA
  have x0 : B1 W0 w.heap.size _ _ := hx 0 _ rfl
  have x1 : B1 W0 (w.heap.size + 1) _ _ := hx 1 _ rfl
  have x2 : B1 W0 (w.heap.size + 2) _ _ := hx 2 _ rfl
  have x3 : B1 W0 (w.heap.size + 3) _ _ := hx 3 _ rfl
  have x4 : B1 W0 (w.heap.size + 4) _ _ := hx 4 _ rfl
  have x5 := hx 5 _ rfl
  clear hx
  obtain ⟨es, us, HH⟩ := H
  have HF : Hid (Calls Tryz.prog 27 #[.slice (some ⟨w.heap.size + 5, 0, none⟩) 4 4] W0 fun e w' => e = .returned (.int .i64 (storeC h n who d l)) ∧ Below W0.heap.size W0 w') := Lib.hid (by
    rw [← st_code]
    refine first_quiet 4 4 (by decide) (w.heap.size + 5) (sel 1 3 5 7 0 0) (sel 28 31 32 33 0 0) (sel c1 c2 c3 c4 #[] #[]) (st1 h n who d l) W0 W0 (by omega) (Below.refl _ _) ?_ ?_ ?_
    · intro i hi W
      match i, hi with
      | 0, _ => exact st_ent1 _ W
      | 1, _ => exact st_ent2 _ W
      | 2, _ => exact st_ent3 _ W
      | 3, _ => exact st_ent4 _ W
      | m + 4, h => omega
    · intro i hi
      match i, hi with
      | 0, _ => exact ⟨cell_blk x5 0, cell_blk x5 1⟩
      | 1, _ => exact ⟨cell_blk x5 2, cell_blk x5 3⟩
      | 2, _ => exact ⟨cell_blk x5 4, cell_blk x5 5⟩
      | 3, _ => exact ⟨cell_blk x5 6, cell_blk x5 7⟩
      | m + 4, h => omega
    · intro i W hi hW
      have H2 := (HH.below hb).below hW
      have hs2 := (hs.below hb (Nat.le_refl _)).below hW (Nat.le_refl _)
      match i, hi with
      | 0, _ => show Calls _ _ c1 _ _; rw [hc1]; exact store1 n who l _ _ _ _ W (blk hW (by omega) x1) (blk hW (by omega) x2) (blk hW (by omega) x4) hs2
      | 1, _ => show Calls _ _ c2 _ _; rw [hc2]; exact store2 d _ W (blk hW (by omega) x3)
      | 2, _ => show Calls _ _ c3 _ _; rw [hc3]; exact store3 n _ _ W H2 (blk hW (by omega) x0) (blk hW (by omega) x1)
      | 3, _ => show Calls _ _ c4 _ _; rw [hc4]; exact store4 l _ _ _ W H2 (blk hW (by omega) x0) (blk hW (by omega) x4) hs2 hul
      | m + 4, h => omega)
  have HB := Lib.hid hb
  have HZ := Lib.hid hz
  have HX := Lib.hid (And.intro x0 (And.intro x1 (And.intro x2 (And.intro x3 x4))))
  have HHX : Hid (Hsx W0 bh bm bu h) := Lib.hid ⟨es, us, HH.below hb⟩
  have HSS := Lib.hid (hs.below hb (Nat.le_refl _))
  have HOK := Lib.hid hok
  have HPH : Hid (storeC h n who d l ≠ 0 → storeH h n who d l = h) := Lib.hid (fun h0 => if_neg h0)
  have HPS : Hid (storeC h n who d l = 0 → storeH h n who d l = ⟨h.name, rput h.L ⟨n, h.name, who, joinL l, d⟩, h.used ++ [n]⟩) := Lib.hid (fun h0 => if_pos h0)
  have HPZ : Hid (storeC h n who d l = 0 → nameOk n = true ∧ nameOk who = true ∧ lotsOk l = true ∧ (0 ≤ d ∧ d ≤ 1048576) ∧ n ∉ h.used ∧ l.length ≤ 64) := Lib.hid storeC_zero
  generalize storeH h n who d l = PH at *
  generalize storeC h n who d l = PC at *
  have e0 := hW0.symm
  rw [hc1, hc2, hc3, hc4] at e0
  clear hs hok hul hb hz x0 x1 x2 x3 x4 x5 HH hW0 hc1 hc2 hc3 hc4
  go_enter Tryz.func14, Tryz.ntmps14
  go_wp2_with fail
  refine HF.out.mono ?_
  rintro e w1 ⟨rfl, hb1⟩
  have HB1 := Lib.hid (HB.out.trans (hb1.mono HB.out.size))
  have HH1 := Lib.hid (HHX.out.below hb1)
  have HS1 := Lib.hid (HSS.out.below hb1 (Nat.le_refl _))
  by_cases h0 : PC = 0
  · have t1 : (PC == 0) = true := by simp [h0]
    have HQ := Lib.hid (HPS.out h0)
    have HQ0 := Lib.hid h0
    obtain ⟨g1, g2, g3, g4, g5, g6⟩ := HPZ.out h0
    have hz := HZ.out
    have y0 := cell_blk (blk hb1 (by omega) HX.out.1) 0
    have y1 := cell_blk (blk hb1 (by omega) HX.out.2.1) 0
    have y2 := cell_blk (blk hb1 (by omega) HX.out.2.2.1) 0
    have y3 := cell_blk (blk hb1 (by omega) HX.out.2.2.2.1) 0
    have y4 := cell_blk (blk hb1 (by omega) HX.out.2.2.2.2) 0
    simp only [List.getElem?_toArray, List.getElem?_cons_zero] at y0 y1 y2 y3 y4
    have HPU := Lib.hid (putH_any n who d l (.slice al l.length cl) w1 HH1.out HS1.out (by omega) (fun g => by
      have h1 := posTot_totC (lotsOk_pos g3) g
      have h2 := lotsOk_max g3
      omega) (memB_no.2 g5) (fun r hr e => g5 (by rw [← e]; exact HOK.out.inn r hr)))
    clear h0 g1 g2 g3 g4 g5 g6 hb1 hz e0
    go_wp2_with (first
      | ((with_reducible refine HPU.out.mono ?_); rintro e w2 ⟨rfl, hk2, hx2⟩; have HK2 := Lib.hid hk2; have HH2 := Lib.hid hx2; clear hk2 hx2)
      | fail)
    go_ret
    exact ⟨by rw [HQ0.out]; first | rfl | skip, (Keep.of_below HB1.out).trans HK2.out (fun _ _ e => e), by rw [HQ.out]; exact HH2.out⟩
  · have t1 : (PC == 0) = false := by simp [h0]
    have HQ := Lib.hid (HPH.out h0)
    clear h0 hb1 e0
    go_wp2_with fail
    go_ret
    exact ⟨rfl, Keep.of_below HB1.out, by rw [HQ.out]; exact HH1.out⟩
end Go.Proofs.YticnmmfiadpbbaaGreat.Sc
