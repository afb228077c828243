/- What is used of a bond is never above the limit; behind all that is due is paid, or gone, nothing is used. No condition. -/
import Derived.Test.YtehlhfcaajhhaaaPlay45
import Derived.Test.YtehlhfcaajhhaaaAwake45
namespace Go.Proofs.Ytehlhfcaajhhaaa.Sc
open Go Go.RowKit
instance decMem (n : ByteArray) (S : List ByteArray) : Decidable (n ∈ S) := decidable_of_iff (S.any (fun m => decide (n = m)) = true) (by simp)
/-- All boxes of these names are gone. -/
def outS (l : List Bx) (S : List ByteArray) : List Bx := l.map fun b => if b.name ∈ S then ⟨b.name, b.duty, b.day, 2⟩ else b
theorem outS_nil (l : List Bx) : outS l [] = l := by simp [outS]
theorem outS_set (l : List Bx) (S : List ByteArray) (n : ByteArray) : setSt (outS l S) n 2 = outS l (S ++ [n]) := by
  simp only [setSt, outS, List.map_map]
  refine List.map_congr_left fun b _ => ?_
  simp only [Function.comp]
  by_cases h1 : b.name ∈ S
  · rw [if_pos h1, if_pos (List.mem_append.2 (.inl h1))]
    by_cases h2 : b.name = n
    · rw [if_pos h2]
    · rw [if_neg h2]
  · rw [if_neg h1]
    by_cases h2 : b.name = n
    · rw [if_pos h2, if_pos (by simp [h2])]
    · rw [if_neg h2, if_neg (by simp [h1, h2])]
theorem outS_box (l : List Bx) (S : List ByteArray) (n : ByteArray) (h : n ∉ S) : boxOf (outS l S) n = boxOf l n := by
  rw [boxOf, outS, List.find?_map]
  have e : ((fun b : Bx => decide (b.name = n)) ∘ fun b : Bx => if b.name ∈ S then (⟨b.name, b.duty, b.day, 2⟩ : Bx) else b) = fun b => decide (b.name = n) := by
    funext b
    simp only [Function.comp]
    split <;> rfl
  rw [e]
  cases hb : l.find? fun b => decide (b.name = n) with
  | none => rw [boxOf, hb]; rfl
  | some b =>
    have hn : b.name = n := by simpa using List.find?_some hb
    rw [boxOf, hb, Option.map_some, if_neg (by rw [hn]; exact h)]
theorem mem_due {l : List Bx} {day : Int} {n : ByteArray} : n ∈ dueR l day ↔ ∃ b ∈ l, b.name = n ∧ b.st = 0 ∧ b.day ≤ day := by
  rw [dueR_eq, mem_putAll, dueNames, List.mem_map]
  constructor
  · rintro ⟨b, hb, rfl⟩
    obtain ⟨h1, h2⟩ := List.mem_filter.1 hb
    simp only [isDue, Bool.and_eq_true, decide_eq_true_eq] at h2
    exact ⟨b, h1, rfl, h2.1, h2.2⟩
  · rintro ⟨b, hb, rfl, h1, h2⟩
    exact ⟨b, List.mem_filter.2 ⟨hb, by simp [isDue, h1, h2]⟩, rfl⟩
theorem due_nodup (l : List Bx) (day : Int) : (dueR l day).Nodup := by rw [dueR_eq]; exact rising_nodup (putAll_rising _)
theorem boxOf_of {l : List Bx} {b : Bx} (hn : (l.map Bx.name).Nodup) (hb : b ∈ l) : boxOf l b.name = some b := by
  induction l with
  | nil => simp at hb
  | cons x r ih =>
    simp only [List.map_cons, List.nodup_cons] at hn
    rcases List.mem_cons.1 hb with rfl | hb'
    · rw [boxOf, List.find?_cons_of_pos (by simp)]
    · have : ¬ x.name = b.name := fun e => hn.1 (List.mem_map.2 ⟨b, hb', e.symm⟩)
      rw [boxOf, List.find?_cons_of_neg (by simpa using this)]
      exact ih hn.2 hb'
theorem used_none {l : List Bx} (h : ∀ b ∈ l, ¬ b.st = 0) : usedOf l = 0 := by
  induction l with
  | nil => rfl
  | cons b r ih =>
    rw [usedOf, if_neg (h b List.mem_cons_self), ih (fun x hx => h x (List.mem_cons_of_mem _ hx))]
    rfl
theorem outS_all {l : List Bx} (hg : ∀ b ∈ l, b.good) : ∀ b ∈ outS l (dueR l 1048576), ¬ b.st = 0 := by
  intro b hb
  obtain ⟨x, hx, rfl⟩ := List.mem_map.1 hb
  split
  · exact (by decide : ¬ (2 : Int) = 0)
  · rename_i h
    intro h0
    exact h (mem_due.2 ⟨x, hx, rfl, h0, (hg x hx).y.2⟩)
theorem due_none {l : List Bx} {day : Int} (h : ∀ b ∈ l, ¬ b.st = 0) : dueR l day = [] := by
  rw [List.eq_nil_iff_forall_not_mem]
  intro n hn
  obtain ⟨b, hb, -, h0, -⟩ := mem_due.1 hn
  exact h b hb h0
/-- One is gone, of those that are due. -/
theorem leave_next {l : List Bx} {N : List ByteArray} {k : Nat} (hN : N = dueR l 1048576) (hn : (l.map Bx.name).Nodup) (hk : k < N.length) :
    leaveC (outS l (N.take k)) N[k] rfExp = 0 ∧ leaveL (outS l (N.take k)) N[k] 2 rfExp = outS l (N.take (k + 1)) ∧ leaveC (outS l (N.take (k + 1))) N[k] rfExp = 9 ∧ leaveL (outS l (N.take (k + 1))) N[k] 2 rfExp = outS l (N.take (k + 1)) := by
  have hnd : N.Nodup := by rw [hN]; exact due_nodup l 1048576
  have hnot : N[k] ∉ N.take k := by
    intro h
    have h2 : (N.take k ++ [N[k]]).Nodup := by
      rw [← List.take_succ_eq_append_getElem hk]
      exact (List.take_sublist _ _).nodup hnd
    rw [List.nodup_append] at h2
    exact h2.2.2 _ h _ List.mem_cons_self rfl
  have hm : N[k] ∈ dueR l 1048576 := by rw [← hN]; exact List.getElem_mem hk
  obtain ⟨b, hb, hbn, h0, -⟩ := mem_due.1 hm
  have hbox : boxOf (outS l (N.take k)) N[k] = some b := by rw [outS_box _ _ _ hnot, ← hbn]; exact boxOf_of hn hb
  have hc : leaveC (outS l (N.take k)) N[k] rfExp = 0 := leaveC_some hbox h0
  have hl : leaveL (outS l (N.take k)) N[k] 2 rfExp = outS l (N.take (k + 1)) := by
    rw [leaveL, if_pos hc, outS_set, ← List.take_succ_eq_append_getElem hk]
  have hin : (⟨b.name, b.duty, b.day, 2⟩ : Bx) ∈ outS l (N.take (k + 1)) := by
    refine List.mem_map.2 ⟨b, hb, ?_⟩
    rw [if_pos]
    rw [hbn, List.take_succ_eq_append_getElem hk]
    exact List.mem_append.2 (.inr (List.mem_singleton.2 rfl))
  have hnames : ((outS l (N.take (k + 1))).map Bx.name) = l.map Bx.name := by
    rw [outS, List.map_map]
    refine List.map_congr_left fun x _ => ?_
    simp only [Function.comp]
    split <;> rfl
  have hbox2 : boxOf (outS l (N.take (k + 1))) N[k] = some ⟨b.name, b.duty, b.day, 2⟩ := by
    rw [← hbn]
    exact boxOf_of (by rw [hnames]; exact hn) hin
  have hc2 : leaveC (outS l (N.take (k + 1))) N[k] rfExp = 9 := leaveC_gone hbox2 (show ¬ (2 : Int) = 0 by decide)
  exact ⟨hc, hl, hc2, by rw [leaveL, if_neg (by rw [hc2]; decide)]⟩
theorem used_next {l : List Bx} {n : ByteArray} (hn : (l.map Bx.name).Nodup) (hg : ∀ b ∈ l, b.good) (hc : leaveC l n rfExp = 0) : usedOf (leaveL l n 2 rfExp) ≤ usedOf l := by
  rw [leaveL, if_pos hc]
  cases hb : boxOf l n with
  | none => rw [leaveC_none hb] at hc; cases hc
  | some b =>
    by_cases h0 : b.st = 0
    · rw [used_set hn hb h0 (by decide)]
      have := (hg b (boxOf_mem hb).1).d
      omega
    · rw [leaveC_gone hb h0] at hc; cases hc
theorem off_new {w : World} {bp bm : Nat} {L : Int} {l : List Bx} {v : Value} (ho : ∀ b, v.ownBlock = some b → w.heap.size ≤ b) (hb : Bst w bp bm L l) : Off (fun k => k = bp ∨ k = bm) v := fun b h => by
  have h1 := ho b h
  have h2 := lt_blk hb.box
  obtain ⟨es, hm, -⟩ := hb.map
  have h3 := hm.lt
  omega
end Go.Proofs.Ytehlhfcaajhhaaa.Sc
namespace Go.Proofs.Ytehlhfcaajhhaaa.dutyLimits
open Go.ChangeShapes Go.WideShapes Go.ChangeAt Go.RowKit Go Sc
set_option maxRecDepth 100000

set_option maxHeartbeats 8000000 in
theorem walk (w : World) (limit : Int) (_ : (Lit.int .i64 limit).wf = true) (ops : List O5) (v : Value) (hs : Sl w 5 v (ops.map O5.row)) (hf : ∀ o ∈ ops, o.fit) (pays : Bool) :
    Calls Try.prog 6 #[.int .i64 limit, v, .bool pays] w (RetB w true) := by
  have HAW := Lib.hid (fun W => awake_any W)
  have HLO := Lib.hid (long_any ops v w hs)
  cases hlr : longR ops
  · rw [hlr] at HLO
    have hol : ops.length ≤ 60 := by
      simp only [longR, Bool.or_eq_false_iff, decide_eq_false_iff_not] at hlr
      omega
    have HPL := Lib.hid (fun W (hW : Below w.heap.size w W) => play_any limit ops v W (hs.below hW (Nat.le_refl _)) (by omega) hf)
    have HKL : Hid ((playL (limOf limit) ops).length ≤ 60) := Lib.hid (Nat.le_trans (playL_len _ _) hol)
    generalize playL (limOf limit) ops = lk at *
    clear hlr hs hf hol
    have HLI := Lib.hid (fun W => limit_any limit W)
    generalize limOf limit = L at *
    obtain ⟨N, hN⟩ : ∃ N, N = dueR lk 1048576 := ⟨_, rfl⟩
    have HN := Lib.hid hN
    have HUS := Lib.hid (fun l bp bm W (h : Bst W bp bm L l) => used_any l L bp bm W h)
    have HDU := Lib.hid (fun bp bm W (h : Bst W bp bm L lk) => dueN_any lk L bp bm 1048576 W h (by have := HKL.out; omega))
    rw [← hN] at HDU
    have hNl : N.length ≤ 60 := by rw [hN]; have := dueR_len lk 1048576 lk.length (Nat.le_refl _); rw [List.take_length] at this; have := HKL.out; omega
    clear hN
    go_enter Try.func6, Try.ntmps6
    go_wp2_with (first
      | ((with_reducible refine HLO.out.mono ?_); rintro e w1 ⟨rfl, hb1⟩; have HB := Lib.hid hb1; clear hb1)
      | ((with_reducible refine (HPL.out _ HB.out).mono ?_); rintro e w2 ⟨bp, bm, vv, rfl, hs2, hv2, ho2, hp2, hb2⟩; have HBS := Lib.hid hs2; have HBN := Lib.hid (And.intro hs2.nodup hs2.good); have tu1 : decide (usedOf lk < 0) = false := decide_eq_false (by have := hs2.us; omega); have tu2 : decide (L < usedOf lk) = false := decide_eq_false (by have := hs2.us; omega); have HPP := Lib.hid (And.intro (Nat.le_trans HB.out.size hp2.1) (Nat.le_trans HB.out.size hp2.2)); have HB := Lib.hid (HB.out.trans (hb2.mono HB.out.size)); clear hs2 hv2 ho2 hp2 hb2)
      | ((with_reducible refine (HUS.out _ _ _ _ HBS.out).mono ?_); rintro e w10 ⟨rfl, hb10⟩; have HB := Lib.hid (HB.out.trans (hb10.mono HB.out.size)); have HBS := Lib.hid (HBS.out.below hb10); clear hb10)
      | ((with_reducible refine (HLI.out _).mono ?_); rintro e w11 ⟨rfl, hb11⟩; have HB := Lib.hid (HB.out.trans (hb11.mono HB.out.size)); have HBS := Lib.hid (HBS.out.below hb11); clear hb11)
      | ((with_reducible refine (HDU.out _ _ _ HBS.out).mono ?_); rintro e w12 ⟨v5, rfl, ht5, hb12, ho12⟩; obtain ⟨va, vc, rfl⟩ : ∃ a c, v5 = .slice a N.length c := (by simpa using ht5.shape); have HOF := Lib.hid (off_new ho12 HBS.out); have HT5 := Lib.hid ht5; have HB := Lib.hid (HB.out.trans (hb12.mono HB.out.size)); have HBS := Lib.hid (HBS.out.below hb12); clear ht5 hb12 ho12)
      | fail)
    go_loopw [9, 11, 12, 37] (fun u _ _ i wr => ∃ k : Nat, k ≤ N.length ∧ i = .int .i64 k ∧ u = .int .i64 (usedOf (outS lk (N.take k))) ∧ Bst wr bp bm L (outS lk (N.take k)) ∧ Sl wr 1 (.slice va N.length vc) (N.map stRow) ∧ Below w.heap.size w wr) (fun _ _ _ i _ => N.length - (intOf i).toNat)
    case atStart => exact ⟨0, Nat.zero_le _, rfl, by rw [List.take_zero, outS_nil], by rw [List.take_zero, outS_nil]; exact HBS.out, HT5.out, HB.out⟩
    case round =>
      obtain ⟨k, hk, rfl, rfl, hbs, hst, hbel⟩ := hrel
      have HNN := HBN
      have HBS := Lib.hid hbs
      have HT5 := Lib.hid hst
      have HB := Lib.hid hbel
      by_cases hlt : k < N.length
      · obtain ⟨b, off, rfl, -, hb, hc⟩ := hst.at (i := k) (by simpa using hlt)
        have d0 := hc k (stRow N[k]) (by simp [hlt]) 0 _ rfl
        rw [Nat.mul_one, Nat.add_zero] at d0
        obtain ⟨hc0, hl0, hc9, hl9⟩ := leave_next HN.out HBN.out.1 hlt
        have hu := used_next hbs.nodup hbs.good hc0
        rw [hl0] at hu
        have HEX := Lib.hid (fun W (h : Bst W bp bm L (outS lk (N.take k))) => export_any (outS lk (N.take k)) L bp bm N[k] W h)
        have HEX2 := Lib.hid (fun W (h : Bst W bp bm L (outS lk (N.take (k + 1)))) => export_any (outS lk (N.take (k + 1))) L bp bm N[k] W h)
        rw [hc0, hl0] at HEX
        rw [hc9, hl9] at HEX2
        have HUS2 := Lib.hid (fun W (h : Bst W bp bm L (outS lk (N.take (k + 1)))) => used_any (outS lk (N.take (k + 1))) L bp bm W h)
        obtain ⟨l2, hl2⟩ : ∃ x, x = outS lk (N.take (k + 1)) := ⟨_, rfl⟩
        have HS2 := Lib.hid hl2
        rw [← hl2] at hu HEX HEX2 HUS2
        clear hc hbs hst hbel hc0 hl0 hc9 hl9 hl2
        generalize outS lk (N.take k) = l1 at *
        generalize N[k] = n at *
        have tu3 : decide (usedOf l1 < usedOf l2) = false := decide_eq_false (by omega)
        clear hu
        cases pays
        · skip
          go_wp2_with (first
            | ((with_reducible refine (HEX.out _ HBS.out).mono ?_); rintro e w14 ⟨rfl, hs14, hk14⟩; have HT5 := Lib.hid (HT5.out.keep hk14 HOF.out); have HB := Lib.hid (hk14.behind HB.out HB.out.size (fun k hk h => by have := HPP.out; omega)); have HBS := Lib.hid hs14; clear hs14 hk14)
            | ((with_reducible refine (HUS2.out _ HBS.out).mono ?_); rintro e w16 ⟨rfl, hb16⟩; have HT5 := Lib.hid (HT5.out.below hb16 (Nat.le_refl _)); have HB := Lib.hid (HB.out.trans (hb16.mono HB.out.size)); have HBS := Lib.hid (HBS.out.below hb16); clear hb16)
            | fail)
          go_roundw
          case rel => exact ⟨k + 1, by omega, by go_num, by rw [← HS2.out], by rw [← HS2.out]; exact HBS.out, HT5.out, HB.out⟩
          case measure => (simp [intOf]) <;> omega
        · skip
          go_wp2_with (first
            | ((with_reducible refine (HEX.out _ HBS.out).mono ?_); rintro e w14 ⟨rfl, hs14, hk14⟩; have HT5 := Lib.hid (HT5.out.keep hk14 HOF.out); have HB := Lib.hid (hk14.behind HB.out HB.out.size (fun k hk h => by have := HPP.out; omega)); have HBS := Lib.hid hs14; clear hs14 hk14)
            | ((with_reducible refine (HEX2.out _ HBS.out).mono ?_); rintro e w15 ⟨rfl, hs15, hk15⟩; have HT5 := Lib.hid (HT5.out.keep hk15 HOF.out); have HB := Lib.hid (hk15.behind HB.out HB.out.size (fun k hk h => by have := HPP.out; omega)); have HBS := Lib.hid hs15; clear hs15 hk15)
            | ((with_reducible refine (HUS2.out _ HBS.out).mono ?_); rintro e w16 ⟨rfl, hb16⟩; have HT5 := Lib.hid (HT5.out.below hb16 (Nat.le_refl _)); have HB := Lib.hid (HB.out.trans (hb16.mono HB.out.size)); have HBS := Lib.hid (HBS.out.below hb16); clear hb16)
            | fail)
          go_roundw
          case rel => exact ⟨k + 1, by omega, by go_num, by rw [← HS2.out], by rw [← HS2.out]; exact HBS.out, HT5.out, HB.out⟩
          case measure => (simp [intOf]) <;> omega
      · have hkl : N.take k = N := List.take_of_length_le (by omega)
        have hz := outS_all HBN.out.2
        rw [← HN.out] at hz
        rw [hkl] at hbs HBS ⊢
        have tz : (usedOf (outS lk N) == 0) = true := by rw [used_none hz]; rfl
        have HDE : Hid (dueR (outS lk N) 1048576 = []) := Lib.hid (due_none hz)
        have HKE : Hid ((outS lk N).length ≤ 60) := Lib.hid (by rw [outS, List.length_map]; exact HKL.out)
        have HDU2 := Lib.hid (fun bp bm W (h : Bst W bp bm L (outS lk N)) => dueN_any (outS lk N) L bp bm 1048576 W h (by have := HKE.out; omega))
        rw [HDE.out] at HDU2
        clear hst hz hbs hbel
        go_wp2_with (first
          | ((with_reducible refine (HDU2.out _ _ _ HBS.out).mono ?_); rintro e w17 ⟨v6, rfl, ht6, hb17, -⟩; obtain ⟨vd, ve, rfl⟩ : ∃ a c, v6 = .slice a 0 c := (by simpa using ht6.shape); have HB := Lib.hid (HB.out.trans (hb17.mono HB.out.size)); clear ht6 hb17)
          | ((with_reducible refine (HAW.out _).mono ?_); rintro e w9 ⟨rfl, hb9⟩; have HB := Lib.hid (HB.out.trans (hb9.mono HB.out.size)); clear hb9)
          | fail)
        go_ret
        exact ⟨rfl, HB.out⟩

  · rw [hlr] at HLO
    clear hlr hs hf
    go_enter Try.func6, Try.ntmps6
    go_wp2_with (first
      | ((with_reducible refine HLO.out.mono ?_); rintro e w1 ⟨rfl, hb1⟩; have HB := Lib.hid hb1; clear hb1)
      | ((with_reducible refine (HAW.out _).mono ?_); rintro e w9 ⟨rfl, hb9⟩; have HB := Lib.hid (HB.out.trans (hb9.mono HB.out.size)); clear hb9)
      | fail)
    go_ret
    exact ⟨rfl, HB.out⟩

theorem lifted (os : Os) (started : os.Started) (H : Type) (enc : TypeId × Value → H) :
    ReturnsInHanded {} Try.checked os 6 .any (Rows.dutyLimitsSpec.pre6 enc Try.prog Try.f6 Rows.dutyLimitsRow.domain false) (Rows.dutyLimitsSpec.post enc Try.prog Try.f6 false true false false) := by
  refine law_lifted os started (by kernel_rfl) Try.func6
    (ChangeSpec.witness6 (enc := enc) (C := Try.checked) false ⟨#[], #[.int .i64 0, .slice none 0 0, .bool false], []⟩ 8 (by kernel_rfl) (by kernel_rfl) (by kernel_rfl) (by kernel_rfl))
    (by kernel_rfl) rfl rfl ?_ ?_
  · intro vs ds W p hA
    rw [Try.params6] at hA
    obtain ⟨v0, vs0, d0, ds0, p0, q0, rfl, rfl, rfl, h0, r0⟩ := trodAll_cons hA
    obtain ⟨v1, vs1, d1, ds1, p1, q1, rfl, rfl, rfl, h1, r1⟩ := trodAll_cons r0
    obtain ⟨v2, vs2, d2, ds2, p2, q2, rfl, rfl, rfl, h2, r2⟩ := trodAll_cons r1
    obtain ⟨rfl, rfl, rfl⟩ := trodAll_nil r2
    rfl
  · intro W base args ds p hval hA
    rw [Try.params6] at hA hval
    obtain ⟨v0, vs0, d0, ds0, p0, q0, hargs, rfl, rfl, h0, r0⟩ := trodAll_cons hA
    obtain ⟨v1, vs1, d1, ds1, p1, q1, rfl, rfl, rfl, h1, r1⟩ := trodAll_cons r0
    obtain ⟨v2, vs2, d2, ds2, p2, q2, rfl, rfl, rfl, h2, r2⟩ := trodAll_cons r1
    obtain ⟨rfl, rfl, rfl⟩ := trodAll_nil r2
    obtain rfl : args = #[v0, v1, v2] := by cases args; simp_all
    obtain ⟨a0, rfl, rfl, rfl, w0⟩ := open_int Try.underlying2 (hval 0 2 v0 rfl rfl) h0
    obtain ⟨l1, hs1, hf1⟩ := open_ops45 (hval 1 37 v1 rfl rfl) h1
    obtain ⟨a2, rfl, rfl, rfl⟩ := open_bool Try.underlying4 (hval 2 4 v2 rfl rfl) h2
    exact walk W a0 w0 l1 v1 hs1 hf1 a2

theorem over : Rows.dutyLimitsRow.holds Try.pinned (OpenSpec.ofChange Rows.dutyLimitsSpec) :=
  OpenClaim.holds_of_wide 6 Try.f6 rfl rfl rfl rfl rfl rfl rfl ⟨rfl, rfl, rfl, rfl, rfl⟩ rfl rfl rfl rfl rfl (by kernel_rfl) Try.func6 (by kernel_rfl)
    (of_decide_eq_true (by kernel_rfl)) (by unfold Func.isWrapper; rw [if_neg (by decide +kernel)]; exact ⟨rfl, rfl⟩)
    (fun os started H enc _ => lifted os started H enc)

/-- The statement. -/
theorem proved : Rows.DutyLimitsSaid := over
#print axioms proved
end Go.Proofs.Ytehlhfcaajhhaaa.dutyLimits
