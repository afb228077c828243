/- slices.Clone of events and of draws; History. -/
import Derived.Test.YtjabjfkfoenmlaaDoA34
import Derived.WalkSpells
namespace Go.Proofs.Ytjabjfkfoenmlaa.Sc
open Go Go.RowKit Go.ChangeShapes Go.WideShapes Go.ChangeAt
set_option maxRecDepth 100000

set_option maxHeartbeats 1000000 in
theorem cloneEv_any (l : List Ev) (v : Value) (w : World) (hs : Sl w 4 v (l.map Ev.row)) (hlen : l.length ≤ 1000000) : Calls Try.prog 40 #[v] w (RetRow w 40 4 l.length (evCells l)) := by
  obtain ⟨i0, hi, hz, hsz, hby⟩ := info_parts infoEv
  have HI := Lib.hid (And.intro hi (And.intro hz (And.intro hsz hby)))
  clear hi hz hsz hby
  have hsrc := (hs.below (one_below w (.cells #[] 40)) (Nat.le_refl _)).src (by intro r hr; obtain ⟨d, _, rfl⟩ := List.mem_map.1 hr; rfl) (by decide)
  rw [List.length_map, show (l.map Ev.row).flatten = evCells l from by simp [evCells, List.flatMap]] at hsrc
  have HSRC := Lib.hid hsrc
  obtain ⟨a, c, rfl⟩ : ∃ a c, v = .slice a l.length c := by simpa using hs.shape
  have HL : Hid (0 + l.length ≤ maxLen ∧ (0 + l.length) * 40 ≤ 140737488355328) := Lib.hid (by simp only [maxLen]; omega)
  cases a with
  | none =>
    have h0 : l = [] ∧ c = 0 := by
      rcases hs with ⟨h, a, c', hv, hn⟩ | ⟨b, off, cap, hv, _⟩
      · simp only [Value.slice.injEq] at hv
        exact ⟨by simpa using h, by rw [hv.2.2]; exact hn hv.1.symm⟩
      · cases hv
    obtain ⟨rfl, rfl⟩ := h0
    clear hs hsrc HSRC HL
    have hq := fun w : World => Lib.run_eql_slice_nil (P := Try.prog) w
    go_enter Try.func40, Try.ntmps40
    go_wp2
    go_ret
    exact ⟨_, rfl, World.ownsRow_nil _ _ _ _, Below.refl _ _⟩
  | some ad =>
    clear hs hsrc hlen
    generalize l.length = n at *
    have hq : ∀ w : World, (binOp .eql 24 (.slice (some ad) n c) (.slice none 0 0)).run Try.prog w = .ok (.bool false) w := fun _ => rfl
    go_enter Try.func40, Try.ntmps40
    go_wp2_with (first
      | ((refine Any.wpl_append (size := 4) (bytes := 40) (n := 0) (m := n) (base := w.heap.size) (vx := .slice (some ⟨w.heap.size, 0, none⟩) 0 0) (vy := .slice (some ad) n c) ?_ ?_ ?_ Try.underlying24 HI.out.1 HI.out.2.1 HI.out.2.2.1 HI.out.2.2.2 ?_ (by decide) (own_empty (Nat.le_refl _)) HSRC.out (evs_one _) HL.out.1 HL.out.2 (by simp) ?_); rfl; rfl; rfl; rfl; intro v1 w1 hown1 hgrow1 hwho1)
      | fail)
    go_ret
    refine ⟨v1, rfl, by simpa using hown1, (one_below w (.cells #[] 40)).grown hgrow1 (by simp) (fun k hk => by have : w.heap.size = k := Option.some.inj hk; omega)⟩
set_option maxHeartbeats 1000000 in
theorem cloneDr_any (l : List Dr) (v : Value) (w : World) (hs : Sl w 2 v (l.map Dr.row)) (hlen : l.length ≤ 1000000) : Calls Try.prog 41 #[v] w (RetRow w 62 2 l.length (drCells l)) := by
  obtain ⟨i0, hi, hz, hsz, hby⟩ := info_parts infoDr
  have HI := Lib.hid (And.intro hi (And.intro hz (And.intro hsz hby)))
  clear hi hz hsz hby
  have hsrc := (hs.below (one_below w (.cells #[] 62)) (Nat.le_refl _)).src (by intro r hr; obtain ⟨d, _, rfl⟩ := List.mem_map.1 hr; rfl) (by decide)
  rw [List.length_map, show (l.map Dr.row).flatten = drCells l from by simp [drCells, List.flatMap]] at hsrc
  have HSRC := Lib.hid hsrc
  obtain ⟨a, c, rfl⟩ : ∃ a c, v = .slice a l.length c := by simpa using hs.shape
  have HL : Hid (0 + l.length ≤ maxLen ∧ (0 + l.length) * 16 ≤ 140737488355328) := Lib.hid (by simp only [maxLen]; omega)
  cases a with
  | none =>
    have h0 : l = [] ∧ c = 0 := by
      rcases hs with ⟨h, a, c', hv, hn⟩ | ⟨b, off, cap, hv, _⟩
      · simp only [Value.slice.injEq] at hv
        exact ⟨by simpa using h, by rw [hv.2.2]; exact hn hv.1.symm⟩
      · cases hv
    obtain ⟨rfl, rfl⟩ := h0
    clear hs hsrc HSRC HL
    have hq := fun w : World => Lib.run_eql_slice_nil (P := Try.prog) w
    go_enter Try.func41, Try.ntmps41
    go_wp2
    go_ret
    exact ⟨_, rfl, World.ownsRow_nil _ _ _ _, Below.refl _ _⟩
  | some ad =>
    clear hs hsrc hlen
    generalize l.length = n at *
    have hq : ∀ w : World, (binOp .eql 63 (.slice (some ad) n c) (.slice none 0 0)).run Try.prog w = .ok (.bool false) w := fun _ => rfl
    go_enter Try.func41, Try.ntmps41
    go_wp2_with (first
      | ((refine Any.wpl_append (size := 2) (bytes := 16) (n := 0) (m := n) (base := w.heap.size) (vx := .slice (some ⟨w.heap.size, 0, none⟩) 0 0) (vy := .slice (some ad) n c) ?_ ?_ ?_ Try.underlying63 HI.out.1 HI.out.2.1 HI.out.2.2.1 HI.out.2.2.2 ?_ (by decide) (own_empty (Nat.le_refl _)) HSRC.out (drCells_one _) HL.out.1 HL.out.2 (by simp) ?_); rfl; rfl; rfl; rfl; intro v1 w1 hown1 hgrow1 hwho1)
      | fail)
    go_ret
    refine ⟨v1, rfl, by simpa using hown1, (one_below w (.cells #[] 62)).grown hgrow1 (by simp) (fun k hk => by have : w.heap.size = k := Option.some.inj hk; omega)⟩
theorem hist_any (bk : Nat) (l : Lf) (F : Nat → Prop) (w : World) (h : Lv w 74 F bk l) (hn : l.evs.length ≤ 4000) :
    Calls Try.prog 20 #[.pointer (some ⟨bk, 0, none⟩)] w (RetRow w 40 4 l.evs.length (evCells l.evs)) := by
  obtain ⟨vp, ve, h⟩ := h
  have CL := Lib.hid (cloneEv_any l.evs ve w (own_evs h.evs rfl) (by omega))
  have d24 : w.cell? ⟨bk, 24, none⟩ = some ve := h.box.cell 24
  clear h hn
  go_enter Try.func20, Try.ntmps20
  go_wp2_with (first | ((with_reducible refine CL.out.mono ?_); rintro e w1 ⟨v1, rfl, hown1, hb1⟩) | fail)
  go_ret
  exact ⟨v1, rfl, hown1, hb1⟩
end Go.Proofs.Ytjabjfkfoenmlaa.Sc
