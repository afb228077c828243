/- What a life hangs on; the chapter's example. -/
import Derived.Test.YtjabjfkfoenmlaaNew34
namespace Go.Proofs.Ytjabjfkfoenmlaa.Sc
open Go Go.RowKit Go.ChangeShapes Go.WideShapes Go.ChangeAt
set_option maxRecDepth 100000

/-- Terms: four parties, the sum, tolerances, the expiry, partial drawings. -/
structure Tm where
  iss : ByteArray
  app : ByteArray
  ben : ByteArray
  con : ByteArray
  sum : Int
  above : Int
  below : Int
  expiry : Int
  part : Bool
def Tm.cells (t : Tm) : Array Value := #[.string t.iss, .string t.app, .string t.ben, .string t.con, .int .i64 t.sum, .int .i64 t.above, .int .i64 t.below, .int .i64 t.expiry, .bool t.part]
def Tm.cr (t : Tm) : Cr := ⟨⟨#[]⟩, t.app, t.ben, t.iss, t.con, ⟨#[]⟩, ⟨#[]⟩, ⟨#[]⟩, t.sum, t.above, t.below, 0, t.expiry, 0, 0, t.part, false, none, 0, 0⟩
theorem tm_bare (t : Tm) : t.cr.bare = t.cr := rfl

theorem credit_any (t : Tm) (w : World) : Calls Try.prog 14 #[.agg t.cells] w (Ret w (.agg t.cr.cells)) := by
  have HO := Lib.hid (((Below.refl w.heap.size w).alloc (Nat.le_refl _) (.cells #[.string t.iss, .string t.app, .string t.ben, .string t.con, .int .i64 t.sum, .int .i64 t.above, .int .i64 t.below, .int .i64 t.expiry, .bool t.part] 23)).alloc (by simp) (.cells Cr.zero.cells 32))
  have HZ : Hid (((w.alloc (.cells #[.string t.iss, .string t.app, .string t.ben, .string t.con, .int .i64 t.sum, .int .i64 t.above, .int .i64 t.below, .int .i64 t.expiry, .bool t.part] 23)).alloc (.cells Cr.zero.cells 32)).heap[w.heap.size + 1]? = some (.cells Cr.zero.cells 32 (0, 0))) := Lib.hid (by
    have := heap_alloc_new (w.alloc (.cells #[.string t.iss, .string t.app, .string t.ben, .string t.con, .int .i64 t.sum, .int .i64 t.above, .int .i64 t.below, .int .i64 t.expiry, .bool t.part] 23)) (.cells Cr.zero.cells 32)
    simpa using this)
  have hcr : t.cr.cells = #[.string ⟨#[]⟩, .string t.app, .string t.ben, .string t.iss, .string t.con, .string ⟨#[]⟩, .string ⟨#[]⟩, .string ⟨#[]⟩, .int .i64 t.sum, .int .i64 t.above, .int .i64 t.below, .int .i64 0, .int .i64 t.expiry, .int .i64 0, .int .i64 0, .bool t.part, .bool false, .slice none 0 0] := rfl
  have HCR := Lib.hid hcr
  clear hcr
  unfold Tm.cells
  generalize t.cr.cells = cs at *
  generalize t.iss = x0 at *
  generalize t.app = x1 at *
  generalize t.ben = x2 at *
  generalize t.con = x3 at *
  generalize t.sum = x4 at *
  generalize t.above = x5 at *
  generalize t.below = x6 at *
  generalize t.expiry = x7 at *
  generalize t.part = x8 at *
  go_enter Try.func14, Try.ntmps14
  go_wp2_with (first
    | refine alloc_cr ?_
    | (refine wpList_store_row (P := Try.prog) rfl 32 (.tmp 2) (.tmp 22) rfl (w.heap.size + 1) _ rfl rfl _ Cr.zero.cells HZ.out (by rw [cr_info]; rfl) rfl (by simp [Value.oneCell']) ?_)
    | fail)
  rw [HCR.out]
  exact bodyPost_ret (results_cell_row rfl _ _ (w.heap.size + 1) _ _ (0, 0) _ rfl (setRow_at HZ.out) Try.underlying32 rfl (by rw [cr_info]; rfl)) rfl ⟨rfl, below_setRow HO.out (by omega) _⟩

def T0 : Tm := ⟨⟨#[107]⟩, ⟨#[121]⟩, ⟨#[115]⟩, ⟨#[]⟩, 5, 0, 0, 9, false⟩
def E1 : Ev := ⟨0, ⟨#[107]⟩, 0, 0⟩
def E2 : Ev := ⟨2, ⟨#[115]⟩, 0, 5⟩
def E3 : Ev := ⟨4, ⟨#[107]⟩, 0, 0⟩
def E4 : Ev := ⟨5, ⟨#[107]⟩, 0, 0⟩
def L0 : Lf := Lf.new T0.cr
def L1 : Lf := (L0.step E1).2
def L2 : Lf := (L1.step E2).2
def L3 : Lf := (L2.step E3).2
def L4 : Lf := (L3.step E4).2
theorem a0 : T0.cr.lives = true := by decide +kernel
theorem a1 : (L0.step E1).1 = 0 := by decide +kernel
theorem a2 : (L1.step E2).1 = 0 := by decide +kernel
theorem a3 : (L2.step E3).1 = 0 := by decide +kernel
theorem a4 : (L3.step E4).1 = 0 := by decide +kernel
theorem a5 : L3.owes ⟨#[107]⟩ = true := by decide +kernel
theorem a6 : L3.now.amt = 5 := by decide +kernel
theorem a7 : L4.owes ⟨#[121]⟩ = true := by decide +kernel
theorem a8 : L4.now.amt = 5 := by decide +kernel
theorem aS : (0 ≤ L0.st ∧ L0.st ≤ 7) ∧ (0 ≤ L1.st ∧ L1.st ≤ 7) ∧ (0 ≤ L2.st ∧ L2.st ≤ 7) ∧ (0 ≤ L3.st ∧ L3.st ≤ 7) := by decide +kernel
theorem aL : (L0.paid.length ≤ 4000 ∧ L0.evs.length ≤ 4000) ∧ (L1.paid.length ≤ 4000 ∧ L1.evs.length ≤ 4000) ∧ (L2.paid.length ≤ 4000 ∧ L2.evs.length ≤ 4000) ∧ (L3.paid.length ≤ 4000 ∧ L3.evs.length ≤ 4000) := by decide +kernel

theorem new_yes (c : Cr) (h : c.lives = true) (w : World) : Calls Try.prog 15 #[.agg c.cells] w fun e w' => ∃ b, e = .returned (.tuple #[.pointer (some ⟨b, 0, none⟩), .int .i64 0]) ∧ Below w.heap.size w w' ∧ ∃ F, Lv w' 74 F b (Lf.new c) ∧ ∀ k, F k → w.heap.size ≤ k := by
  refine (new_any c w).mono fun e w' h' => ?_
  obtain ⟨hb, ⟨h1, _⟩ | ⟨_, b, F, h2, h3, h4⟩⟩ := h'
  · rw [h] at h1; cases h1
  · exact ⟨b, h2, hb, F, h3, h4⟩
theorem owes_lv {w : World} {F : Nat → Prop} {b : Nat} {l : Lf} (h : Lv w 74 F b l) (p : ByteArray) :
    Calls Try.prog 17 #[.pointer (some ⟨b, 0, none⟩), .string p] w (Ret w (.tuple #[.int .i64 (if l.owes p then l.now.amt else 0), .bool (l.owes p)])) := by
  obtain ⟨vp, ve, h⟩ := h
  exact owes_any b l vp ve p w h.box
/-- What a step keeps of the blocks of a call that began at w0. -/
theorem after_step {w0 w w' : World} {t : TypeId} {F : Nat → Prop} {n : Int} {b : Nat} {l : Lf} {e : Ending} (hb : Below w0.heap.size w0 w) (hF : ∀ k, F k → w0.heap.size ≤ k) (h : AfterL w t F n b l e w') :
    e = .returned (.int .i64 n) ∧ Below w0.heap.size w0 w' ∧ ∃ F', Lv w' t F' b l ∧ ∀ k, F' k → w0.heap.size ≤ k := by
  obtain ⟨h1, h2, F', h3, h4⟩ := h
  exact ⟨h1, h2.behind hb hb.size (fun k hk hk2 => by have := hF k hk2; omega), F', h3, fun k hk => (h4 k hk).elim (hF k) (fun h => Nat.le_trans hb.size h)⟩

set_option maxHeartbeats 1000000 in
theorem awake_any (w : World) : Calls Try.prog 10 #[] w (RetB w true) := by
  have HCR : Hid (∀ W, Calls Try.prog 14 #[.agg #[.string ⟨#[107]⟩, .string ⟨#[121]⟩, .string ⟨#[115]⟩, .string ⟨#[]⟩, .int .i64 5, .int .i64 0, .int .i64 0, .int .i64 9, .bool false]] W (Ret W (.agg T0.cr.cells))) := Lib.hid (credit_any T0)
  have HNW := Lib.hid (new_yes T0.cr a0)
  have S1 : Hid (∀ W F b, Lv W 74 F b L0 → Calls Try.prog 16 #[.pointer (some ⟨b, 0, none⟩), .agg #[.int .i64 0, .string ⟨#[107]⟩, .int .i64 0, .int .i64 0]] W (AfterL W 74 F 0 b L1)) := Lib.hid (fun W F b h => a1 ▸ doP_any b L0 F E1 W h aS.1.1 aS.1.2 aL.1.1 aL.1.2)
  have S2 : Hid (∀ W F b, Lv W 74 F b L1 → Calls Try.prog 16 #[.pointer (some ⟨b, 0, none⟩), .agg #[.int .i64 2, .string ⟨#[115]⟩, .int .i64 0, .int .i64 5]] W (AfterL W 74 F 0 b L2)) := Lib.hid (fun W F b h => a2 ▸ doP_any b L1 F E2 W h aS.2.1.1 aS.2.1.2 aL.2.1.1 aL.2.1.2)
  have S3 : Hid (∀ W F b, Lv W 74 F b L2 → Calls Try.prog 16 #[.pointer (some ⟨b, 0, none⟩), .agg #[.int .i64 4, .string ⟨#[107]⟩, .int .i64 0, .int .i64 0]] W (AfterL W 74 F 0 b L3)) := Lib.hid (fun W F b h => a3 ▸ doP_any b L2 F E3 W h aS.2.2.1.1 aS.2.2.1.2 aL.2.2.1.1 aL.2.2.1.2)
  have S4 : Hid (∀ W F b, Lv W 74 F b L3 → Calls Try.prog 16 #[.pointer (some ⟨b, 0, none⟩), .agg #[.int .i64 5, .string ⟨#[107]⟩, .int .i64 0, .int .i64 0]] W (AfterL W 74 F 0 b L4)) := Lib.hid (fun W F b h => a4 ▸ doP_any b L3 F E4 W h aS.2.2.2.1 aS.2.2.2.2 aL.2.2.2.1 aL.2.2.2.2)
  have O1 : Hid (∀ W F b, Lv W 74 F b L3 → Calls Try.prog 17 #[.pointer (some ⟨b, 0, none⟩), .string ⟨#[107]⟩] W (Ret W (.tuple #[.int .i64 5, .bool true]))) := Lib.hid (fun W F b h => by have := owes_lv h ⟨#[107]⟩; rw [a5, a6] at this; exact this)
  have O2 : Hid (∀ W F b, Lv W 74 F b L4 → Calls Try.prog 17 #[.pointer (some ⟨b, 0, none⟩), .string ⟨#[121]⟩] W (Ret W (.tuple #[.int .i64 5, .bool true]))) := Lib.hid (fun W F b h => by have := owes_lv h ⟨#[121]⟩; rw [a7, a8] at this; exact this)
  go_enter Try.func10, Try.ntmps10
  go_wp2_with (first
    | ((with_reducible refine (HCR.out _).mono ?_); rintro e w1 ⟨rfl, hb1⟩; have HB1 := Lib.hid hb1; clear hb1)
    | ((with_reducible refine (HNW.out _).mono ?_); rintro e w2 ⟨b, rfl, hb2, F2, hl2, hF2⟩; have HB2 := Lib.hid (below_then HB1.out hb2); have HL2 := Lib.hid hl2; have HF2 : Hid (∀ k, F2 k → w.heap.size ≤ k) := Lib.hid (fun k hk => Nat.le_trans HB1.out.size (hF2 k hk)); clear hb2 hl2 hF2)
    | ((with_reducible refine (S1.out _ _ _ HL2.out).mono ?_); intro e w3 h3; obtain ⟨rfl, hb3, F3, hl3, hF3⟩ := after_step HB2.out HF2.out h3; have HB3 := Lib.hid hb3; have HL3 := Lib.hid hl3; have HF3 := Lib.hid hF3; clear hb3 hl3 hF3 h3)
    | ((with_reducible refine (S2.out _ _ _ HL3.out).mono ?_); intro e w4 h4; obtain ⟨rfl, hb4, F4, hl4, hF4⟩ := after_step HB3.out HF3.out h4; have HB4 := Lib.hid hb4; have HL4 := Lib.hid hl4; have HF4 := Lib.hid hF4; clear hb4 hl4 hF4 h4)
    | ((with_reducible refine (S3.out _ _ _ HL4.out).mono ?_); intro e w5 h5; obtain ⟨rfl, hb5, F5, hl5, hF5⟩ := after_step HB4.out HF4.out h5; have HB5 := Lib.hid hb5; have HL5 := Lib.hid hl5; have HF5 := Lib.hid hF5; clear hb5 hl5 hF5 h5)
    | ((with_reducible refine (O1.out _ _ _ HL5.out).mono ?_); rintro e w6 ⟨rfl, hb6⟩; have HL6 := Lib.hid (HL5.out.below hb6); have HB6 := Lib.hid (HB5.out.trans (hb6.mono HB5.out.size)); clear hb6)
    | ((with_reducible refine (S4.out _ _ _ HL6.out).mono ?_); intro e w7 h7; obtain ⟨rfl, hb7, F7, hl7, hF7⟩ := after_step HB6.out HF5.out h7; have HB7 := Lib.hid hb7; have HL7 := Lib.hid hl7; clear hb7 hl7 hF7 h7)
    | ((with_reducible refine (O2.out _ _ _ HL7.out).mono ?_); rintro e w8 ⟨rfl, hb8⟩; have HB8 := Lib.hid (HB7.out.trans (hb8.mono HB7.out.size)); clear hb8)
    | fail)
  go_ret
  exact retB rfl HB8.out

/-- The states' names. -/
def nameS (n : Int) : ByteArray := if n = 0 then ⟨#[105, 115, 115, 117, 101, 100]⟩ else if n = 1 then ⟨#[97, 100, 118, 105, 115, 101, 100]⟩ else if n = 2 then ⟨#[112, 114, 101, 115, 101, 110, 116, 101, 100]⟩ else if n = 3 then ⟨#[114, 101, 102, 117, 115, 101, 100]⟩
  else if n = 4 then ⟨#[104, 111, 110, 111, 117, 114, 101, 100]⟩ else if n = 5 then ⟨#[112, 97, 105, 100]⟩ else if n = 6 then ⟨#[114, 101, 105, 109, 98, 117, 114, 115, 101, 100]⟩ else if n = 7 then ⟨#[101, 120, 112, 105, 114, 101, 100]⟩ else ⟨#[]⟩
theorem name_lit (n : Int) (h0 : 0 ≤ n) (h7 : n ≤ 7) (w : World) : Calls Try.prog 24 #[.int .i64 n] w (Ret w (.string (nameS n))) := by
  rcases eight h0 h7 with rfl | rfl | rfl | rfl | rfl | rfl | rfl | rfl <;> (
    go_enter Try.func24, Try.ntmps24
    go_wp2
    go_ret
    exact ⟨rfl, Below.refl _ _⟩)
theorem name_no (n : Int) (h : ¬ (0 ≤ n ∧ n ≤ 7)) (w : World) : Calls Try.prog 24 #[.int .i64 n] w (Ret w (.string ⟨#[]⟩)) := by
  have t0 : (n == 0) = false := by simp; omega
  have t1 : (n == 1) = false := by simp; omega
  have t2 : (n == 2) = false := by simp; omega
  have t3 : (n == 3) = false := by simp; omega
  have t4 : (n == 4) = false := by simp; omega
  have t5 : (n == 5) = false := by simp; omega
  have t6 : (n == 6) = false := by simp; omega
  have t7 : (n == 7) = false := by simp; omega
  clear h
  go_enter Try.func24, Try.ntmps24
  go_wp2
  go_ret
  exact ⟨rfl, Below.refl _ _⟩
def RetNames (w : World) (e : Ending) (w' : World) : Prop := ∃ b, e = .returned (.slice (some ⟨b, 0, none⟩) 8 8) ∧ Below w.heap.size w w' ∧ w'.heap[b]? = some (.cells #[.string (nameS 0), .string (nameS 1), .string (nameS 2), .string (nameS 3), .string (nameS 4), .string (nameS 5), .string (nameS 6), .string (nameS 7)] 9 (0, 0))
theorem refNames_any (w : World) : Calls Try.prog 23 #[] w (RetNames w) := by
  go_enter Try.func23, Try.ntmps23
  go_wp2
  go_ret
  exact ⟨_, rfl, one_below _ _, heap_alloc_new _ _⟩
end Go.Proofs.Ytjabjfkfoenmlaa.Sc
