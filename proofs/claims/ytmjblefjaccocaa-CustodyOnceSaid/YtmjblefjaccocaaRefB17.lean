/- The document's answers: Begins, Hands, As. -/
import Derived.Test.YtmjblefjaccocaaRefA17
namespace Go.Proofs.Ytmjblefjaccocaa.Sc
open Go Go.RowKit Go.ChangeShapes Go.WideShapes Go.ChangeAt

def RetI (w : World) (n : Int) : Ending → World → Prop := Ret w (.int .i64 n)
theorem retI {w w' : World} {n m : Int} (h : m = n) (hb : Below w.heap.size w w') : RetI w n (.returned (.int .i64 m)) w' := by subst h; exact ⟨rfl, hb⟩

/-- What is wrong first with a beginning. -/
def beginE (there : Bool) (n : Nat) (box who place : ByteArray) (at_ : Int) : Int :=
  if nameOk box = true ∧ nameOk who = true ∧ nameOk place = true then
    if dayOk at_ = true then (if there = true then 5 else if 4096 ≤ n then 7 else 0) else 3
  else 1
/-- What is wrong first with a hand-over. -/
def lastE (h : Hd) (n : Nat) (last : Hd) : Int := if ¬ last.to = h.frm then 8 else if h.day < last.day then 6 else if 4096 ≤ n then 7 else 0
def handE (own : List Hd) (h : Hd) : Int :=
  if nameOk h.box = true ∧ nameOk h.frm = true ∧ nameOk h.to = true ∧ nameOk h.place = true ∧ ¬ h.frm = h.to then
    if dayOk h.day = true then
      match own.getLast? with
      | none => 4
      | some last => lastE h own.length last
    else 3
  else 1
def has (l : List Hd) (box : ByteArray) : Bool := decide (0 < (ownOf l box).length)
def stepE (done : List Hd) (h : Hd) : Int :=
  if h.frm = ⟨#[]⟩ then beginE (has done h.box) (boxesS done).length h.box h.to h.place h.day else handE (ownOf done h.box) h

theorem own_shape {w : World} {B n : Nat} {e : TypeId} {sz : Nat} {v : Value} {xs : List Value} (h : w.ownsRow B e sz v n xs) : ∃ a c, v = .slice a n c := by
  rcases h.2 with ⟨rfl, rfl⟩ | ⟨g, cap, cur, rfl, _⟩
  · exact ⟨_, _, rfl⟩
  · exact ⟨_, _, rfl⟩

set_option maxRecDepth 5000 in
set_option maxHeartbeats 2000000 in
theorem refBegins_any (l : List Hd) (box who place : ByteArray) (d : Int) (v : Value) (w : World) (hs : Sl w 5 v (l.map Hd.row)) (hlen : l.length ≤ 4000)
    (m1 : box.size ≤ maxLen) (m2 : who.size ≤ maxLen) (m3 : place.size ≤ maxLen) :
    Calls Try.prog 29 #[v, .string box, .string who, .string place, .int .i64 d] w (RetI w (beginE (has l box) (boxesS l).length box who place d)) := by
  have M1 : Hid (box.size ≤ 9223372036854775807) := Lib.hid (by simp only [maxLen] at m1; omega)
  have M2 : Hid (who.size ≤ 9223372036854775807) := Lib.hid (by simp only [maxLen] at m2; omega)
  have M3 : Hid (place.size ≤ 9223372036854775807) := Lib.hid (by simp only [maxLen] at m3; omega)
  have HSL := Lib.hid hs
  have HLEN : Hid (l.length ≤ 1000000) := Lib.hid (by omega)
  have hbel := Below.refl w.heap.size w
  have t5 : decide (4096 ≤ (boxesS l).length) = false := decide_eq_false (by have := boxesS_len l; omega)
  have t6 : decide ((4096 : Int) ≤ ((boxesS l).length : Int)) = false := decide_eq_false (by have := boxesS_len l; omega)
  have T5 : Hid (¬ 4096 ≤ (boxesS l).length) := Lib.hid (by have := boxesS_len l; omega)
  have HB : Hid ((boxesS l).length ≤ 1000000) := Lib.hid (by have := boxesS_len l; omega)
  have HO : Hid ((ownOf l box).length ≤ 1000000) := Lib.hid (by have := ownOf_len l box; omega)
  clear hs hlen m1 m2 m3
  cases h1 : nameOk box <;> cases h2 : nameOk who <;> cases h3 : nameOk place <;> cases h4 : dayOk d <;> cases h5 : has l box
  all_goals
    have t7 := h5
    unfold has at t7
    clear h5
    go_enter Try.func29, Try.ntmps29
    go_wp2_with (first
      | ((with_reducible refine (refName_any box _ M1.out).mono ?_); rintro e w1 ⟨rfl, hb1⟩; have hbel := hbel.trans (hb1.mono hbel.size); clear hb1)
      | ((with_reducible refine (refName_any who _ M2.out).mono ?_); rintro e w1 ⟨rfl, hb1⟩; have hbel := hbel.trans (hb1.mono hbel.size); clear hb1)
      | ((with_reducible refine (refName_any place _ M3.out).mono ?_); rintro e w1 ⟨rfl, hb1⟩; have hbel := hbel.trans (hb1.mono hbel.size); clear hb1)
      | ((with_reducible refine (refDay_any d _).mono ?_); rintro e w1 ⟨rfl, hb1⟩; have hbel := hbel.trans (hb1.mono hbel.size); clear hb1)
      | ((with_reducible refine (refOwn_any l box _ _ (HSL.out.below hbel (Nat.le_refl _)) HLEN.out).mono ?_); rintro e w1 ⟨v1, rfl, hown1, hb1⟩; obtain ⟨a1, c1, rfl⟩ := own_shape hown1; have hbel := hbel.trans (hb1.mono hbel.size); clear hown1 hb1)
      | ((with_reducible refine (refBoxes_any l _ _ (HSL.out.below hbel (Nat.le_refl _)) HLEN.out).mono ?_); rintro e w1 ⟨v1, rfl, hown1, hb1⟩; obtain ⟨a1, c1, rfl⟩ := own_shape hown1; have hbel := hbel.trans (hb1.mono hbel.size); clear hown1 hb1)
      | fail)
    all_goals
      go_ret
      exact retI (by
        unfold beginE
        simp [h1, h2, h3, h4, T5.out]) (by assumption)

theorem hd_cells {w : World} {b : Nat} {u0 u1 u2 u3 u4 : Value} {t : TypeId} {fr : Nat × Nat} (h : w.heap[b]? = some (.cells #[u0, u1, u2, u3, u4] t fr)) :
    w.cell? ⟨b, 0, none⟩ = some u0 ∧ w.cell? ⟨b, 1, none⟩ = some u1 ∧ w.cell? ⟨b, 2, none⟩ = some u2 ∧ w.cell? ⟨b, 3, none⟩ = some u3 ∧ w.cell? ⟨b, 4, none⟩ = some u4 :=
  ⟨cell_blk h 0, cell_blk h 1, cell_blk h 2, cell_blk h 3, cell_blk h 4⟩
theorem ways6 (a b c d e f : Bool) : a = false ∨ (a = true ∧ b = false) ∨ (a = true ∧ b = true ∧ c = false) ∨ (a = true ∧ b = true ∧ c = true ∧ d = false) ∨ (a = true ∧ b = true ∧ c = true ∧ d = true ∧ e = true) ∨
    (a = true ∧ b = true ∧ c = true ∧ d = true ∧ e = false ∧ f = false) ∨ (a = true ∧ b = true ∧ c = true ∧ d = true ∧ e = false ∧ f = true) := by
  cases a <;> cases b <;> cases c <;> cases d <;> cases e <;> cases f <;> simp
theorem getLast_get {l : List Hd} (h : 0 < l.length) : l.getLast? = some (l[l.length - 1]'(by omega)) := by
  rw [List.getLast?_eq_getElem?, List.getElem?_eq_getElem (by omega)]

set_option maxRecDepth 5000 in
set_option maxHeartbeats 4000000 in
theorem refHands_any (l : List Hd) (h : Hd) (v : Value) (w : World) (hs : Sl w 5 v (l.map Hd.row)) (hlen : l.length ≤ 4000) (hf : h.fit) :
    Calls Try.prog 30 #[v, .agg h.cells] w (RetI w (handE (ownOf l h.box) h)) := by
  obtain ⟨box, frm, to, place, d⟩ := h
  obtain ⟨m1, m2, m3, m4⟩ := hf
  simp only at m1 m2 m3 m4
  unfold Hd.cells
  have M1 : Hid (box.size ≤ 9223372036854775807) := Lib.hid (by simp only [maxLen] at m1; omega)
  have M2 : Hid (frm.size ≤ 9223372036854775807) := Lib.hid (by simp only [maxLen] at m2; omega)
  have M3 : Hid (to.size ≤ 9223372036854775807) := Lib.hid (by simp only [maxLen] at m3; omega)
  have M4 : Hid (place.size ≤ 9223372036854775807) := Lib.hid (by simp only [maxLen] at m4; omega)
  have HSL := Lib.hid hs
  have HLEN : Hid (l.length ≤ 1000000) := Lib.hid (by omega)
  have HO : Hid ((ownOf l box).length ≤ 4000) := Lib.hid (by have := ownOf_len l box; omega)
  clear hs hlen m1 m2 m3 m4
  have HX : Hid ((w.alloc (.cells #[.string box, .string frm, .string to, .string place, .int .i64 d] 41)).heap[w.heap.size]? = some (.cells #[.string box, .string frm, .string to, .string place, .int .i64 d] 41 (0, 0))) := Lib.hid (heap_alloc_new _ _)
  have hbel := one_below w (.cells #[.string box, .string frm, .string to, .string place, .int .i64 d] 41)
  rcases ways6 (nameOk box) (nameOk frm) (nameOk to) (nameOk place) (frm.toList == to.toList) (dayOk d) with h1 | ⟨h1, h2⟩ | ⟨h1, h2, h3⟩ | ⟨h1, h2, h3, h4⟩ | ⟨h1, h2, h3, h4, h5⟩ | ⟨h1, h2, h3, h4, h5, h6⟩ | ⟨h1, h2, h3, h4, h5, h6⟩
  rotate_right
  · have G : Hid (handE (ownOf l box) ⟨box, frm, to, place, d⟩ = match (ownOf l box).getLast? with | none => 4 | some last => lastE ⟨box, frm, to, place, d⟩ (ownOf l box).length last) := Lib.hid (by
      rw [str_beq, decide_eq_false_iff_not] at h5
      unfold handE
      simp only [h1, h2, h3, h4, h5, h6, not_false_eq_true, and_self, if_true])
    rcases List.eq_nil_or_concat (ownOf l box) with hw | ⟨L, x, hw⟩
    · have HW := Lib.hid hw
      clear hw
      rw [HW.out] at G
      go_enter Try.func30, Try.ntmps30
      go_wp2_with (first
        | ((with_reducible refine (refName_any box _ M1.out).mono ?_); rintro e w1 ⟨rfl, hb1⟩; have hbel := hbel.trans (hb1.mono hbel.size); have HX := Lib.hid (blk hb1 (lt_blk HX.out) HX.out); obtain ⟨c0, c1, c2, c3, c4⟩ := hd_cells HX.out; clear hb1)
        | ((with_reducible refine (refName_any frm _ M2.out).mono ?_); rintro e w1 ⟨rfl, hb1⟩; have hbel := hbel.trans (hb1.mono hbel.size); have HX := Lib.hid (blk hb1 (lt_blk HX.out) HX.out); obtain ⟨c0, c1, c2, c3, c4⟩ := hd_cells HX.out; clear hb1)
        | ((with_reducible refine (refName_any to _ M3.out).mono ?_); rintro e w1 ⟨rfl, hb1⟩; have hbel := hbel.trans (hb1.mono hbel.size); have HX := Lib.hid (blk hb1 (lt_blk HX.out) HX.out); obtain ⟨c0, c1, c2, c3, c4⟩ := hd_cells HX.out; clear hb1)
        | ((with_reducible refine (refName_any place _ M4.out).mono ?_); rintro e w1 ⟨rfl, hb1⟩; have hbel := hbel.trans (hb1.mono hbel.size); have HX := Lib.hid (blk hb1 (lt_blk HX.out) HX.out); obtain ⟨c0, c1, c2, c3, c4⟩ := hd_cells HX.out; clear hb1)
        | ((with_reducible refine (refDay_any d _).mono ?_); rintro e w1 ⟨rfl, hb1⟩; have hbel := hbel.trans (hb1.mono hbel.size); have HX := Lib.hid (blk hb1 (lt_blk HX.out) HX.out); obtain ⟨c0, c1, c2, c3, c4⟩ := hd_cells HX.out; clear hb1)
        | ((with_reducible refine (refOwn_any l box _ _ (HSL.out.below hbel (Nat.le_refl _)) HLEN.out).mono ?_); rintro e w1 ⟨v1, rfl, hown1, hb1⟩; rw [HW.out, List.length_nil] at hown1; obtain ⟨a1, c1, rfl⟩ := own_shape hown1; have hbel := hbel.trans (hb1.mono hbel.size); clear hown1 hb1)
        | fail)
      go_ret
      exact retI (by rw [HW.out]; exact G.out.symm) (by assumption)
    · obtain ⟨m, hm⟩ : ∃ m, L.length = m := ⟨_, rfl⟩
      have HW : Hid (ownOf l box = L ++ [x]) := Lib.hid (by rw [hw, List.concat_eq_append])
      have HM := Lib.hid hm
      clear hw hm
      have G' : Hid (handE (ownOf l box) ⟨box, frm, to, place, d⟩ = lastE ⟨box, frm, to, place, d⟩ (m + 1) x) := Lib.hid (by rw [G.out, HW.out]; simp [HM.out])
      have hm4 : m + 1 ≤ 4000 := by have := HO.out; rw [HW.out] at this; simp [HM.out] at this; omega
      have t8 : decide (4096 ≤ m + 1) = false := decide_eq_false (by omega)
      have t9 : decide ((4096 : Int) ≤ ((m + 1 : Nat) : Int)) = false := decide_eq_false (by omega)
      have t10 : decide ((4096 : Int) ≤ (m : Int) + 1) = false := decide_eq_false (by omega)
      have HM4 := Lib.hid hm4
      have hm5 : (m : Int) ≤ 4000 := by omega
      clear hm4 G
      by_cases e1 : x.to = frm
      all_goals
        first | have t1 := str_yes e1 | have t1 := str_no e1
        have E1 := Lib.hid e1
        clear e1
        by_cases e2 : d < x.day
        all_goals
          have E2 := Lib.hid e2
          go_enter Try.func30, Try.ntmps30
          go_wp2_with (first
            | ((with_reducible refine (refName_any box _ M1.out).mono ?_); rintro e w1 ⟨rfl, hb1⟩; have hbel := hbel.trans (hb1.mono hbel.size); have HX := Lib.hid (blk hb1 (lt_blk HX.out) HX.out); obtain ⟨c0, c1, c2, c3, c4⟩ := hd_cells HX.out; clear hb1)
            | ((with_reducible refine (refName_any frm _ M2.out).mono ?_); rintro e w1 ⟨rfl, hb1⟩; have hbel := hbel.trans (hb1.mono hbel.size); have HX := Lib.hid (blk hb1 (lt_blk HX.out) HX.out); obtain ⟨c0, c1, c2, c3, c4⟩ := hd_cells HX.out; clear hb1)
            | ((with_reducible refine (refName_any to _ M3.out).mono ?_); rintro e w1 ⟨rfl, hb1⟩; have hbel := hbel.trans (hb1.mono hbel.size); have HX := Lib.hid (blk hb1 (lt_blk HX.out) HX.out); obtain ⟨c0, c1, c2, c3, c4⟩ := hd_cells HX.out; clear hb1)
            | ((with_reducible refine (refName_any place _ M4.out).mono ?_); rintro e w1 ⟨rfl, hb1⟩; have hbel := hbel.trans (hb1.mono hbel.size); have HX := Lib.hid (blk hb1 (lt_blk HX.out) HX.out); obtain ⟨c0, c1, c2, c3, c4⟩ := hd_cells HX.out; clear hb1)
            | ((with_reducible refine (refDay_any d _).mono ?_); rintro e w1 ⟨rfl, hb1⟩; have hbel := hbel.trans (hb1.mono hbel.size); have HX := Lib.hid (blk hb1 (lt_blk HX.out) HX.out); obtain ⟨c0, c1, c2, c3, c4⟩ := hd_cells HX.out; clear hb1)
            | ((with_reducible refine (refOwn_any l box _ _ (HSL.out.below hbel (Nat.le_refl _)) HLEN.out).mono ?_); rintro e w1 ⟨v1, rfl, hown1, hb1⟩; rw [HW.out, show (L ++ [x]).length = m + 1 from by simp [HM.out]] at hown1; obtain ⟨a1, c1, rfl⟩ := own_shape hown1; have hbel := hbel.trans (hb1.mono hbel.size);
               have HX := Lib.hid (blk hb1 (lt_blk HX.out) HX.out); obtain ⟨c0, c1, c2, c3, c4⟩ := hd_cells HX.out; clear hb1; obtain ⟨b1, off1, rfl, -, hlt1, hc1⟩ := (own_hands hown1 (by simp [HM.out])).at (i := m) (by simp [HM.out]); have hr1 := hc1 m x.row (by simp [← HM.out]); clear hc1 hown1;
               have hlx := lt_blk HX.out; have q0 : w1.cell? ⟨b1, off1 + m * 5, none⟩ = some (.string x.box) := hr1 0 _ rfl; have q1 := hr1 1 _ rfl; have q2 := hr1 2 _ rfl; have q3 := hr1 3 _ rfl; have q4 := hr1 4 _ rfl; clear hr1)
            | fail)
          go_ret
          exact retI (by
            rw [G'.out]
            show (_ : Int) = if ¬ x.to = frm then 8 else if d < x.day then 6 else if 4096 ≤ m + 1 then 7 else 0
            have hm6 := HM4.out
            first
              | rw [if_pos E1.out]
              | rw [if_neg (fun h => h E1.out), if_pos E2.out]
              | rw [if_neg (fun h => h E1.out), if_neg (by have := E2.out; omega), if_neg (by omega)]) (hbel.trans ((one_below w1 _).mono hbel.size))
  all_goals
    have G1 := Lib.hid h1
    try have G2 := Lib.hid h2
    try have G3 := Lib.hid h3
    try have G4 := Lib.hid h4
    try have G5 := Lib.hid h5
    try rw [str_beq, decide_eq_true_eq] at G5
    try rw [str_beq, decide_eq_false_iff_not] at G5
    try have G6 := Lib.hid h6
    go_enter Try.func30, Try.ntmps30
    go_wp2_with (first
      | ((with_reducible refine (refName_any box _ M1.out).mono ?_); rintro e w1 ⟨rfl, hb1⟩; have hbel := hbel.trans (hb1.mono hbel.size); have HX := Lib.hid (blk hb1 (lt_blk HX.out) HX.out); obtain ⟨c0, c1, c2, c3, c4⟩ := hd_cells HX.out; clear hb1)
      | ((with_reducible refine (refName_any frm _ M2.out).mono ?_); rintro e w1 ⟨rfl, hb1⟩; have hbel := hbel.trans (hb1.mono hbel.size); have HX := Lib.hid (blk hb1 (lt_blk HX.out) HX.out); obtain ⟨c0, c1, c2, c3, c4⟩ := hd_cells HX.out; clear hb1)
      | ((with_reducible refine (refName_any to _ M3.out).mono ?_); rintro e w1 ⟨rfl, hb1⟩; have hbel := hbel.trans (hb1.mono hbel.size); have HX := Lib.hid (blk hb1 (lt_blk HX.out) HX.out); obtain ⟨c0, c1, c2, c3, c4⟩ := hd_cells HX.out; clear hb1)
      | ((with_reducible refine (refName_any place _ M4.out).mono ?_); rintro e w1 ⟨rfl, hb1⟩; have hbel := hbel.trans (hb1.mono hbel.size); have HX := Lib.hid (blk hb1 (lt_blk HX.out) HX.out); obtain ⟨c0, c1, c2, c3, c4⟩ := hd_cells HX.out; clear hb1)
      | ((with_reducible refine (refDay_any d _).mono ?_); rintro e w1 ⟨rfl, hb1⟩; have hbel := hbel.trans (hb1.mono hbel.size); have HX := Lib.hid (blk hb1 (lt_blk HX.out) HX.out); obtain ⟨c0, c1, c2, c3, c4⟩ := hd_cells HX.out; clear hb1)
      | fail)
    go_ret
    exact retI (by
      unfold handE
      first
        | simp [G1.out, G2.out, G3.out, G4.out, G5.out, G6.out]
        | (have g := G5.out; simp [g])
        | (have g := G4.out; simp [g])
        | (have g := G3.out; simp [g])
        | (have g := G2.out; simp [g])
        | (have g := G1.out; simp [g])) (by assumption)
end Go.Proofs.Ytmjblefjaccocaa.Sc
