/- Both, behind deeds. -/
import Derived.Test.YtnlfhncbnfmccaaDoneC26
import Derived.OwnWalk
namespace Go.Proofs.Ytnlfhncbnfmccaa.Sc
open Go Go.RowKit Go.ChangeShapes Go.WideShapes Go.ChangeAt
set_option maxRecDepth 100000

def NewX (w : World) (e : Ending) (w' : World) : Prop := ∃ F bk bm, e = .returned (.pointer (some ⟨bk, 0, none⟩)) ∧ Lx w' F bk bm [] ∧ (∀ k, F k → w.heap.size ≤ k) ∧ Below w.heap.size w w'
theorem newX_any (w : World) : Calls Try.prog 23 #[] w (NewX w) := by
  refine (new_any w).mono ?_
  rintro e w' ⟨bk, bm, he, hl, hb⟩
  exact ⟨_, bk, bm, he, ⟨[], hl⟩, fun k hk => hk.1, hb⟩
def GrownP (w : World) (l : List Dd) (e : Ending) (w' : World) : Prop :=
  ∃ F bk bm v, e = .returned (.tuple #[.pointer (some ⟨bk, 0, none⟩), v, .bool true]) ∧ Lx w' F bk bm (deeds l) ∧ Sl w' 6 v ((deeds l).map Pg.row) ∧ (Off F v ∨ deeds l = []) ∧ (∀ k, F k → w.heap.size ≤ k) ∧ Below w.heap.size w w'
theorem deeds_take_len (ds : List Dd) (k : Nat) (h : ds.length ≤ 39) : (deeds (ds.take k)).length ≤ 39 := by
  have h1 := deeds_len (ds.take k)
  rw [List.length_take] at h1
  omega
set_option maxHeartbeats 4000000 in
theorem grown_any (ds : List Dd) (v : Value) (w : World) (hs : Sl w 8 v (ds.map Dd.row)) (hl : ds.length ≤ 39) (hf : ∀ d ∈ ds, d.p.thing.size ≤ 100 ∧ d.p.debtor.size ≤ 100 ∧ d.p.cred.size ≤ 100) :
    Calls Try.prog 12 #[v] w (GrownP w ds) := by
  obtain ⟨a, c, rfl⟩ : ∃ a c, v = .slice a ds.length c := by simpa using hs.shape
  have HS := Lib.hid hs
  have HF := Lib.hid hf
  have HNW := Lib.hid (newX_any w)
  have hl' : ds.length ≤ 39 := hl
  clear hs hf hl'
  go_enter Try.func12, Try.ntmps12
  go_wp2_with (first
    | ((with_reducible refine HNW.out.mono ?_); rintro e w1 ⟨F, bk, bm, rfl, hx, hF, hb⟩; have HX := Lib.hid (And.intro hx (And.intro hF hb)); clear hx hF hb)
    | fail)
  go_loopw [6, 7] (fun m i wr => ∃ (k : Nat) (G : Nat → Prop), k ≤ ds.length ∧ i = .int .i64 k ∧ Lx wr G bk bm (deeds (ds.take k)) ∧ Sl wr 6 m ((deeds (ds.take k)).map Pg.row) ∧ (Off G m ∨ deeds (ds.take k) = []) ∧ (∀ j, G j → w.heap.size ≤ j) ∧ Below w.heap.size w wr) (fun _ i _ => ds.length - (intOf i).toNat)
  case atStart => exact ⟨0, F, Nat.zero_le _, rfl, HX.out.1.below (one_below _ _), .inl ⟨rfl, _, _, rfl, fun h => by cases h⟩, .inr rfl, HX.out.2.1, HX.out.2.2.alloc HX.out.2.2.size _⟩
  case round =>
    obtain ⟨k, G, hk, rfl, hx, hsm, hoff, hG, hbel⟩ := hrel
    by_cases hlt : k < ds.length
    · obtain ⟨b, off, rfl, -, hb, hc⟩ := HS.out.at (i := k) (by simpa using hlt)
      have d0 := (hbel.cell (p := ⟨b, off + k * 8, none⟩) hb).trans (hc k (ds[k].row) (by simp [hlt]) 0 _ rfl)
      have d1 := (hbel.cell (p := ⟨b, off + k * 8 + 1, none⟩) hb).trans (hc k (ds[k].row) (by simp [hlt]) 1 _ rfl)
      have d2 := (hbel.cell (p := ⟨b, off + k * 8 + 2, none⟩) hb).trans (hc k (ds[k].row) (by simp [hlt]) 2 _ rfl)
      have d3 := (hbel.cell (p := ⟨b, off + k * 8 + 3, none⟩) hb).trans (hc k (ds[k].row) (by simp [hlt]) 3 _ rfl)
      have d4 := (hbel.cell (p := ⟨b, off + k * 8 + 4, none⟩) hb).trans (hc k (ds[k].row) (by simp [hlt]) 4 _ rfl)
      have d5 := (hbel.cell (p := ⟨b, off + k * 8 + 5, none⟩) hb).trans (hc k (ds[k].row) (by simp [hlt]) 5 _ rfl)
      have d6 := (hbel.cell (p := ⟨b, off + k * 8 + 6, none⟩) hb).trans (hc k (ds[k].row) (by simp [hlt]) 6 _ rfl)
      have d7 := (hbel.cell (p := ⟨b, off + k * 8 + 7, none⟩) hb).trans (hc k (ds[k].row) (by simp [hlt]) 7 _ rfl)
      have hfd := HF.out _ (List.getElem_mem hlt)
      have HDN := Lib.hid (done_any (O := fun _ => False) ds[k] hx hsm hoff (.inl fun _ _ h => h) (fun _ h => h.elim) (deeds_ok _) (deeds_take_len ds k hl) (by omega) (by omega) (by omega))
      rw [← deeds_snoc hlt] at HDN
      unfold Dd.cells at HDN
      have HR := Lib.hid (And.intro hG hbel)
      clear hx hsm hoff hG hbel hc hfd
      go_wp2_with (first
        | ((with_reducible refine HDN.out.mono ?_); rintro e w2 ⟨G', v2, rfl, hx2, hs2, ho2, -, hG2, hk2⟩; have H2 := Lib.hid (And.intro hx2 (And.intro hs2 (And.intro ho2 (And.intro hG2 hk2)))); clear hx2 hs2 ho2 hG2 hk2)
        | fail)
      go_roundw
      case rel =>
        refine ⟨k + 1, G', by omega, by go_num, H2.out.1, H2.out.2.1, H2.out.2.2.1, fun j hj => ?_, ?_⟩
        · rcases H2.out.2.2.2.1 j hj with h | h
          · exact HR.out.1 j h
          · exact Nat.le_trans HR.out.2.size h
        · exact Keep.behind HR.out.2 H2.out.2.2.2.2 HR.out.2.size (fun j hj h => absurd (HR.out.1 j h) (by omega))
      case measure => simp [intOf]; omega
    · have hkl : ds.take k = ds := List.take_of_length_le (by omega)
      rw [hkl] at hx hsm hoff
      have HR := Lib.hid (And.intro hx (And.intro hsm (And.intro hoff (And.intro hG hbel))))
      clear hx hsm hoff hG hbel hkl
      go_wp2_with fail
      go_ret3
      exact ⟨G, bk, bm, _, rfl, HR.out⟩
end Go.Proofs.Ytnlfhncbnfmccaa.Sc
