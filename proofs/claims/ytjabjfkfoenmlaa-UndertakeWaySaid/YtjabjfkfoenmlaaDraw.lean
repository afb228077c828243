/- The contract of allow.Drawn: whether draws may be, and their sum. -/
import Derived.Test.YtjabjfkfoenmlaaLaw
namespace Go.Proofs.Ytjabjfkfoenmlaa.Sc
open Go Go.RowKit Go.ChangeShapes Go.WideShapes Go.ChangeAt
set_option maxRecDepth 100000

/-- A draw. -/
structure Dr where
  day : Int
  amt : Int

def Dr.row (d : Dr) : List Value := [.int .i64 d.day, .int .i64 d.amt]

def drOk (ahead : Int) (d : Dr) : Bool := decide (1 ≤ d.amt) && decide (d.amt ≤ 1099511627776) && decide (ahead ≤ d.day) && decide (d.day ≤ 1048576)
/-- May they be, behind a day? -/
def drawsFrom (ahead : Int) : List Dr → Bool
  | [] => true
  | d :: r => drOk ahead d && drawsFrom d.day r
def dsum : List Dr → Int
  | [] => 0
  | d :: r => d.amt + dsum r
def draws (l : List Dr) : Bool := decide (l.length ≤ 4096) && drawsFrom 0 l

theorem dsum_append (a b : List Dr) : dsum (a ++ b) = dsum a + dsum b := by
  induction a with
  | nil => simp [dsum]
  | cons d r ih => simp only [List.cons_append, dsum, ih]; omega
theorem dsum_take_succ (l : List Dr) (k : Nat) (h : k < l.length) : dsum (l.take (k + 1)) = dsum (l.take k) + l[k].amt := by
  rw [List.take_succ_eq_append_getElem h, dsum_append]; simp [dsum]
theorem drawsFrom_drop (l : List Dr) (k : Nat) (a : Int) (h : k < l.length) : drawsFrom a (l.drop k) = (drOk a l[k] && drawsFrom l[k].day (l.drop (k + 1))) := by
  rw [List.drop_eq_getElem_cons h]; rfl
theorem drawsFrom_bd (l : List Dr) : ∀ a, drawsFrom a l = true → 0 ≤ dsum l ∧ dsum l ≤ 1099511627776 * l.length := by
  induction l with
  | nil => intro a _; simp [dsum]
  | cons d r ih =>
    intro a h
    simp only [drawsFrom, drOk, Bool.and_eq_true, decide_eq_true_eq] at h
    obtain ⟨⟨⟨⟨h1, h2⟩, h3⟩, h4⟩, h5⟩ := h
    have := ih _ h5
    simp only [dsum, List.length_cons]
    omega

def drawnR (l : List Dr) : Value := .tuple #[.int .i64 (if draws l then dsum l else 0), .bool (draws l)]
def RetD (w : World) (l : List Dr) : Ending → World → Prop := Ret w (drawnR l)
theorem retD_no {w w' : World} {l : List Dr} (h : draws l = false) (hb : Below w.heap.size w w') : RetD w l (.returned (.tuple #[.int .i64 0, .bool false])) w' := ⟨by simp [drawnR, h], hb⟩
theorem retD_yes {w w' : World} {l : List Dr} {s : Int} (h : draws l = true) (hs : s = dsum l) (hb : Below w.heap.size w w') : RetD w l (.returned (.tuple #[.int .i64 s, .bool true])) w' := ⟨by simp [drawnR, h, hs], hb⟩

set_option maxHeartbeats 1000000 in
theorem Drawn_any (l : List Dr) (v : Value) (w : World) (hs : Sl w 2 v (l.map Dr.row)) : Calls Try.prog 78 #[v] w (RetD w l) := by
  have hml : l.length ≤ 9223372036854775807 := by have := hs.len_le; simpa [maxLen] using this
  rcases hs with ⟨hx, a, c, rfl, _⟩ | ⟨b, off, cap, hv, hb, hcap, hmx, hc⟩
  · obtain rfl : l = [] := by simpa using hx
    go_enter Try.func78, Try.ntmps78
    go_wp2
    refine wp_loop_once ?_
    go_wp2
    go_ret2
    exact retD_yes rfl rfl (Below.refl _ _)
  · rw [List.length_map] at hv hcap
    subst hv
    by_cases hl : l.length ≤ 4096
    · have HC := Lib.hid hc
      have hl' : ¬ 4096 < (l.length : Int) := by omega
      clear hc hmx
      go_enter Try.func78, Try.ntmps78
      go_wp2
      go_loopw [4, 5, 13] (fun s a i wr => ∃ (k : Nat) (A : Int), k ≤ l.length ∧ i = .int .i64 k ∧ s = .int .i64 (dsum (l.take k)) ∧ a = .int .i64 A ∧ drawsFrom 0 l = drawsFrom A (l.drop k) ∧ 0 ≤ dsum (l.take k) ∧ dsum (l.take k) ≤ 1099511627776 * k ∧ Below w.heap.size w wr)
        (fun _ _ i _ => l.length - (intOf i).toNat)
      case atStart => exact ⟨0, 0, Nat.zero_le _, rfl, rfl, rfl, rfl, by simp [dsum], by simp [dsum], Below.refl _ _⟩
      case round =>
        obtain ⟨k, A, hk, rfl, rfl, rfl, hfrom, hS0, hS1, hbel⟩ := hrel
        by_cases hlt : k < l.length
        · have hr := HC.out k l[k].row (by simp [hlt])
          have d0 := (hbel.cell (p := ⟨b, off + k * 2, none⟩) hb).trans (hr 0 _ rfl)
          have d1 := (hbel.cell (p := ⟨b, off + k * 2 + 1, none⟩) hb).trans (hr 1 _ rfl)
          have HS := Lib.hid (dsum_take_succ l k hlt)
          rw [drawsFrom_drop l k A hlt] at hfrom
          have HF := Lib.hid hfrom
          clear hr hfrom
          generalize l[k] = d at *
          generalize dsum (l.take k) = S at *
          obtain ⟨day, amt⟩ := d
          simp only at d0 d1
          have hbel2 := (hbel.alloc (o := .cells #[.int .i64 day, .int .i64 amt] 62) hbel.size)
          go_wp2
          all_goals first
            | (go_roundw
               case rel => exact ⟨k + 1, day, by omega, by go_num, by rw [HS.out], rfl, by rw [HF.out]; simp [drOk]; omega, by rw [HS.out]; simp only; omega, by rw [HS.out]; simp only; omega, hbel2⟩
               case measure => simp [intOf]; omega)
            | (go_ret2
               exact retD_no (by simp only [draws]; rw [HF.out]; simp [drOk]; omega) hbel2)
        · have hkl : l.length ≤ k := by omega
          have HF := Lib.hid hfrom
          clear hfrom
          have HT : Hid (dsum (l.take k) = dsum l) := Lib.hid (by rw [List.take_of_length_le hkl])
          go_wp2
          go_ret2
          exact retD_yes (by simp only [draws]; rw [HF.out, List.drop_eq_nil_of_le hkl]; simp [drawsFrom, hl]) HT.out hbel
    · have hl' : 4096 < (l.length : Int) := by omega
      go_enter Try.func78, Try.ntmps78
      go_wp2
      go_ret2
      exact retD_no (by simp [draws, hl]) (Below.refl _ _)


/-- An argument that is a slice of draws. -/
theorem open_draws {H : Type} {enc : TypeId × Value → H} {W : World} {base : Nat} {v : Value} {d : DataW H} {p : List MemPlace} (hv : Value.okWide Try.prog W .any base 63 v)
    (h : DataW.Trod enc Try.prog W 0 (fun _ => true) true 63 v d p) : ∃ l : List Dr, Sl W 2 v (l.map Dr.row) := by
  obtain ⟨a, len, cap, rfl⟩ := okWide_slice Try.underlying63 hv
  obtain ⟨fuel, hf⟩ := h
  obtain ⟨rows, hs, _, hg⟩ := open_sl (sz := 2) (Good := fun cs => ∃ d : Dr, cs = d.row) Try.underlying63 (by kernel_rfl) rfl hf (fun n cs y hy => by
    obtain ⟨hl, m, hg⟩ := row_fields Try.underlying62 (by kernel_rfl) (by kernel_rfl) hy
    match cs, hl with
    | [c0, c1], _ =>
      obtain ⟨z0, g0⟩ := hg 0 _ rfl c0 rfl
      obtain ⟨z1, g1⟩ := hg 1 _ rfl c1 rfl
      obtain ⟨a, ha, _⟩ := DataW.trod_int Try.underlying3 g0
      obtain ⟨b, hb, _⟩ := DataW.trod_int Try.underlying2 g1
      obtain rfl : c0 = .int .i64 a := by simpa using ha
      obtain rfl : c1 = .int .i64 b := by simpa using hb
      exact ⟨⟨a, b⟩, rfl⟩) (by decide)
  obtain ⟨l, rfl⟩ := choose_map (f := Dr.row) rows hg
  exact ⟨l, hs⟩

end Go.Proofs.Ytjabjfkfoenmlaa.Sc
