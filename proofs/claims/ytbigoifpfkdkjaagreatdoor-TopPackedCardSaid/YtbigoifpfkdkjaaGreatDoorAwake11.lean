/- The chapter's example. -/
import Derived.Test.YtbigoifpfkdkjaaGreatDoorRising11
import Derived.Test.YtbigoifpfkdkjaaGreatDoorRefSum11
import Derived.Test.YtbigoifpfkdkjaaGreatDoorApart11
namespace Go.Proofs.YtbigoifpfkdkjaaGreatDoor.Sc
open Go Go.RowKit Go.ChangeShapes Go.WideShapes Go.ChangeAt
set_option maxRecDepth 100000

def awG : List Gd := [⟨⟨#[116, 101, 97]⟩, 0, 2, 1⟩, ⟨⟨#[103, 108, 97, 115, 115]⟩, 0, 5, 1⟩]
def awL : List Lt := [⟨⟨#[116, 101, 97]⟩, 3⟩, ⟨⟨#[103, 108, 97, 115, 115]⟩, 1⟩]
def awJ : List Lt := [⟨⟨#[116, 101, 97]⟩, 1⟩]
theorem awG_code : tabC awG = 0 := by kernel_rfl
theorem awG_fit : ∀ r ∈ awG, r.fit := by
  intro r hr
  simp only [awG, List.mem_cons, List.not_mem_nil, or_false] at hr
  rcases hr with rfl | rfl
  · exact ⟨by decide⟩
  · exact ⟨by decide⟩
def NewT (w : World) (l : List Gd) (e : Ending) (w' : World) : Prop := ∃ bt bm, e = .returned (.tuple #[.pointer (some ⟨bt, 0, none⟩), .int .i64 0]) ∧ Tab w' bt bm l ∧ Below w.heap.size w w'
theorem newG_ok {w w' : World} {l : List Gd} {e : Ending} (h : NewG w l e w') (h0 : tabC l = 0) : NewT w l e w' := by
  obtain ⟨hb, ⟨h1, -⟩ | ⟨-, bt, bm, he, ht⟩⟩ := h
  · exact absurd h0 h1
  · exact ⟨bt, bm, he, ht, hb⟩
theorem newG_bad {w w' : World} {l : List Gd} {e : Ending} (h : NewG w l e w') (h0 : ¬ tabC l = 0) : Ret w (.tuple #[.pointer none, .int .i64 (tabC l)]) e w' := by
  obtain ⟨hb, ⟨-, he⟩ | ⟨h1, -⟩⟩ := h
  · exact ⟨he, hb⟩
  · exact absurd h1 h0
theorem aw_newG (w : World) : Calls Tryz.prog 27 #[.slice (some ⟨w.heap.size, 0, none⟩) 2 2] (w.alloc (.cells #[.string ⟨#[116, 101, 97]⟩, .int .i64 0, .int .i64 2, .int .i64 1, .string ⟨#[103, 108, 97, 115, 115]⟩, .int .i64 0, .int .i64 5, .int .i64 1] 84)) (NewT w awG) := by
  refine (newG_any awG _ _ ?_ (by decide) awG_fit).mono fun e w' h => ?_
  · refine .inr ⟨w.heap.size, 0, 2, rfl, by simp, by decide, by decide, fun i r hr j u hu => ?_⟩
    rw [cell_new]
    match i, hr with
    | 0, hr => obtain rfl := (Option.some.inj hr).symm; match j, hu with
      | 0, hu => exact hu
      | 1, hu => exact hu
      | 2, hu => exact hu
      | 3, hu => exact hu
    | 1, hr => obtain rfl := (Option.some.inj hr).symm; match j, hu with
      | 0, hu => exact hu
      | 1, hu => exact hu
      | 2, hu => exact hu
      | 3, hu => exact hu
  · obtain ⟨bt, bm, he, ht, hb⟩ := newG_ok h awG_code
    exact ⟨bt, bm, he, ht, (one_below w _).trans (hb.mono (by simp))⟩
theorem aw_weigh (W : World) (bt bm : Nat) (h : Tab W bt bm awG) : Calls Tryz.prog 30 #[.pointer (some ⟨bt, 0, none⟩), .slice (some ⟨W.heap.size, 0, none⟩) 2 2] (W.alloc (.cells #[.string ⟨#[116, 101, 97]⟩, .int .i64 3, .string ⟨#[103, 108, 97, 115, 115]⟩, .int .i64 1] 107)) (Ret W (.tuple #[.int .i64 11, .int .i64 0])) := by
  have hv : sumV awG Gd.wt awL = .tuple #[.int .i64 11, .int .i64 0] := by kernel_rfl
  have hok := tabC_ok awG_code
  refine (weight_any awG awL bt bm _ _ ?_ (h.below (one_below _ _)) hok.2.1 hok.1).mono fun e w' hh => ?_
  · refine .inr ⟨W.heap.size, 0, 2, rfl, by simp, by decide, by decide, fun i r hr j u hu => ?_⟩
    rw [cell_new]
    match i, hr with
    | 0, hr => obtain rfl := (Option.some.inj hr).symm; match j, hu with
      | 0, hu => exact hu
      | 1, hu => exact hu
    | 1, hr => obtain rfl := (Option.some.inj hr).symm; match j, hu with
      | 0, hu => exact hu
      | 1, hu => exact hu
  · rw [hv] at hh
    exact ⟨hh.1, below_then (one_below _ _) hh.2⟩
theorem aw_join (W : World) : Calls Tryz.prog 36 #[.slice (some ⟨W.heap.size, 0, none⟩) 1 1] (W.alloc (.cells #[.string ⟨#[116, 101, 97]⟩, .int .i64 1] 107)) (fun e w' => ∃ a c, e = .returned (.slice a 1 c) ∧ Below W.heap.size W w') := by
  have hv : joinL awJ = awJ := by kernel_rfl
  refine (join_any awJ _ _ ?_ (by decide) (by intro x hx; simp only [awJ, List.mem_singleton] at hx; subst hx; decide)).mono fun e w' hh => ?_
  · refine .inr ⟨W.heap.size, 0, 1, rfl, by simp, by decide, by decide, fun i r hr j u hu => ?_⟩
    rw [cell_new]
    match i, hr with
    | 0, hr => obtain rfl := (Option.some.inj hr).symm; match j, hu with
      | 0, hu => exact hu
      | 1, hu => exact hu
  · rw [hv] at hh
    obtain ⟨v, rfl, ho, hb⟩ := hh
    obtain ⟨a, c, hs⟩ := (own_lots ho rfl).shape
    exact ⟨a, c, by rw [hs]; rfl, below_then (one_below _ _) hb⟩
end Go.Proofs.YtbigoifpfkdkjaaGreatDoor.Sc
