/- The chapter's example. m[k] = append(m[k], e) in a region that draws its order: the map's turn. No program in sight. A struct with a row of its own, built and stored into a box, in a region that draws its order. No program in sight. -/
import Derived.Test.YtbigoifpfkdkjaaGreatDoorTd32
import Derived.Test.YtbigoifpfkdkjaaGreatDoorTd27
import Derived.Test.YtbigoifpfkdkjaaGreatDoorTd28
import Derived.Test.YtbigoifpfkdkjaaGreatDoorTd11
import Derived.Test.YtbigoifpfkdkjaaGreatDoorTd07
namespace Go.Proofs.YtbigoifpfkdkjaaGreatDoor.Sc
open Go Go.RowKit Go.ChangeShapes Go.WideShapes Go.ChangeAt
set_option maxRecDepth 100000

def awG : List Gd := [⟨⟨#[116, 101, 97]⟩, 0, 2, 1⟩, ⟨⟨#[103, 108, 97, 115, 115]⟩, 0, 5, 1⟩]
def awL : List Lt := [⟨⟨#[116, 101, 97]⟩, 3⟩, ⟨⟨#[103, 108, 97, 115, 115]⟩, 1⟩]
def awJ : List Lt := [⟨⟨#[116, 101, 97]⟩, 1⟩]
theorem awG_code : tabC awG = 0 := by kernel_rfl
theorem awG_fit : ∀ r ∈ awG, r.fit := by
  intro r hr
  simp only [awG, List.mem_cons, List.not_mem_nil, or_false] at hr
  rcases hr with rfl | rfl
  · exact ⟨by decide⟩
  · exact ⟨by decide⟩
def NewT (w : World) (l : List Gd) (e : Ending) (w' : World) : Prop := ∃ bt bm, e = .returned (.tuple #[.pointer (some ⟨bt, 0, none⟩), .int .i64 0]) ∧ Tab w' bt bm l ∧ Below w.heap.size w w'
theorem newG_ok {w w' : World} {l : List Gd} {e : Ending} (h : NewG w l e w') (h0 : tabC l = 0) : NewT w l e w' := by
  obtain ⟨hb, ⟨h1, -⟩ | ⟨-, bt, bm, he, ht⟩⟩ := h
  · exact absurd h0 h1
  · exact ⟨bt, bm, he, ht, hb⟩
theorem newG_bad {w w' : World} {l : List Gd} {e : Ending} (h : NewG w l e w') (h0 : ¬ tabC l = 0) : Ret w (.tuple #[.pointer none, .int .i64 (tabC l)]) e w' := by
  obtain ⟨hb, ⟨-, he⟩ | ⟨h1, -⟩⟩ := h
  · exact ⟨he, hb⟩
  · exact absurd h1 h0
theorem aw_newG (w : World) : Calls Tryz.prog 27 #[.slice (some ⟨w.heap.size, 0, none⟩) 2 2] (w.alloc (.cells #[.string ⟨#[116, 101, 97]⟩, .int .i64 0, .int .i64 2, .int .i64 1, .string ⟨#[103, 108, 97, 115, 115]⟩, .int .i64 0, .int .i64 5, .int .i64 1] 84)) (NewT w awG) := by
  refine (newG_any awG _ _ ?_ (by decide) awG_fit).mono fun e w' h => ?_
  · refine .inr ⟨w.heap.size, 0, 2, rfl, by simp, by decide, by decide, fun i r hr j u hu => ?_⟩
    rw [cell_new]
    match i, hr with
    | 0, hr => obtain rfl := (Option.some.inj hr).symm; match j, hu with
      | 0, hu => exact hu
      | 1, hu => exact hu
      | 2, hu => exact hu
      | 3, hu => exact hu
    | 1, hr => obtain rfl := (Option.some.inj hr).symm; match j, hu with
      | 0, hu => exact hu
      | 1, hu => exact hu
      | 2, hu => exact hu
      | 3, hu => exact hu
  · obtain ⟨bt, bm, he, ht, hb⟩ := newG_ok h awG_code
    exact ⟨bt, bm, he, ht, (one_below w _).trans (hb.mono (by simp))⟩
theorem aw_weigh (W : World) (bt bm : Nat) (h : Tab W bt bm awG) : Calls Tryz.prog 30 #[.pointer (some ⟨bt, 0, none⟩), .slice (some ⟨W.heap.size, 0, none⟩) 2 2] (W.alloc (.cells #[.string ⟨#[116, 101, 97]⟩, .int .i64 3, .string ⟨#[103, 108, 97, 115, 115]⟩, .int .i64 1] 107)) (Ret W (.tuple #[.int .i64 11, .int .i64 0])) := by
  have hv : sumV awG Gd.wt awL = .tuple #[.int .i64 11, .int .i64 0] := by kernel_rfl
  have hok := tabC_ok awG_code
  refine (weight_any awG awL bt bm _ _ ?_ (h.below (one_below _ _)) hok.2.1 hok.1).mono fun e w' hh => ?_
  · refine .inr ⟨W.heap.size, 0, 2, rfl, by simp, by decide, by decide, fun i r hr j u hu => ?_⟩
    rw [cell_new]
    match i, hr with
    | 0, hr => obtain rfl := (Option.some.inj hr).symm; match j, hu with
      | 0, hu => exact hu
      | 1, hu => exact hu
    | 1, hr => obtain rfl := (Option.some.inj hr).symm; match j, hu with
      | 0, hu => exact hu
      | 1, hu => exact hu
  · rw [hv] at hh
    exact ⟨hh.1, below_then (one_below _ _) hh.2⟩
theorem aw_join (W : World) : Calls Tryz.prog 36 #[.slice (some ⟨W.heap.size, 0, none⟩) 1 1] (W.alloc (.cells #[.string ⟨#[116, 101, 97]⟩, .int .i64 1] 107)) (fun e w' => ∃ a c, e = .returned (.slice a 1 c) ∧ Below W.heap.size W w') := by
  have hv : joinL awJ = awJ := by kernel_rfl
  refine (join_any awJ _ _ ?_ (by decide) (by intro x hx; simp only [awJ, List.mem_singleton] at hx; subst hx; decide)).mono fun e w' hh => ?_
  · refine .inr ⟨W.heap.size, 0, 1, rfl, by simp, by decide, by decide, fun i r hr j u hu => ?_⟩
    rw [cell_new]
    match i, hr with
    | 0, hr => obtain rfl := (Option.some.inj hr).symm; match j, hu with
      | 0, hu => exact hu
      | 1, hu => exact hu
  · rw [hv] at hh
    obtain ⟨v, rfl, ho, hb⟩ := hh
    obtain ⟨a, c, hs⟩ := (own_lots ho rfl).shape
    exact ⟨a, c, by rw [hs]; rfl, below_then (one_below _ _) hb⟩
end Go.Proofs.YtbigoifpfkdkjaaGreatDoor.Sc
namespace Go.Proofs.YtbigoifpfkdkjaaGreatDoor.Ord
open Go Go.RowKit
set_option maxRecDepth 100000
/-- Block bm is a map in which key has operation j's row. -/
def laid (e : TypeId) (sz n : Nat) (xs : List Value) (bm : Nat) (es : Mp.Ents) (key : ByteArray) (j : Nat) : Spec :=
  ⟨fun _ _ O w => ∃ v, w.ownsRow 0 e sz v n xs ∧ Mp.MapAt w bm (Mp.mput es key v) ∧ ∀ k, O k ↔ (k = bm ∨ v.ownBlock = some k), [j], fun k => k = bm⟩
theorem lasts_laid {F : Nat → Prop} {w0 : World} (e : TypeId) (sz n : Nat) (xs : List Value) (bm : Nat) (es : Mp.Ents) (key : ByteArray) (j : Nat) : Lasts F (laid e sz n xs bm es key j) w0 :=
  ⟨fun _ _ _ _ h k hk => by
    obtain ⟨v', h1, h2, h3⟩ := h
    rcases (h3 k).1 hk with rfl | h4
    · exact h2.lt
    · exact (h1.lt k h4).2, fun _ _ _ _ _ h _ _ _ hs => by
    obtain ⟨v', h1, h2, h3⟩ := h
    exact ⟨v', Any.ownsRow_same h1 (fun k hk => hs k ((h3 k).2 (.inr hk))), h2.same (hs bm ((h3 bm).2 (.inl rfl))), h3⟩⟩
theorem row_not_map {w : World} {B sz n b : Nat} {e : TypeId} {v : Value} {xs : List Value} {l : Mp.Ents} (h : w.ownsRow B e sz v n xs) (hm : Mp.MapAt w b l) : v.ownBlock ≠ some b := by
  intro hb
  obtain ⟨es, clock, hh, _⟩ := hm
  rcases h.2 with ⟨hv, _⟩ | ⟨g, cap, cur, hv, _, hc, _⟩
  · rw [hv] at hb; cases hb
  · rw [hv] at hb
    obtain rfl : g = b := Option.some.inj hb
    rw [hh] at hc
    cases hc
section
variable {P : Program} {S : Nat → Spec} {Os : Nat → Nat → Prop} {dst : Option Tmp} {t : TypeId} {pos : String} {after : Array Edge} {gd : Option (Nat × Bool)} {ρ : Operand → Value} {w w0 : World} {i : Nat}
theorem ok_laid {e mt k et : TypeId} {size n j bm : Nat} {xs : List Value} {es : Mp.Ents} {key : ByteArray} {m x y : Operand} (ht : P.underlying mt = some (.map k et)) (hk : P.underlying k = some .string) (hm : ρ m = .map (some bm)) (hx : ρ x = .string key)
    (hy : ∃ _ρ : Operand → Value, w.ownsRow 0 e size (ρ y) n xs ∧ ∀ k, Os j k ↔ (ρ y).ownBlock = some k) (hmap : Mp.MapAt w0 bm es) (hkeep : w.heap[bm]? = w0.heap[bm]?) (hS : S i = laid e size n xs bm es key j) :
    Any.OpOk P ⟨dst, .mapUpdate mt m x y, t, pos, after, gd⟩ ρ w (Post S Os i ρ w) := by
  obtain ⟨_, hrow, hOs⟩ := hy
  have hmw := hmap.same hkeep
  refine Mp.ok_update (key := key) (v := ρ y) ht hk hm hx rfl hmw fun w' h1 h2 h3 => ?_
  refine ⟨fun b => b = bm ∨ (ρ y).ownBlock = some b, ?_, ⟨h2.os, h2.tape, h2.output⟩, h2.size, fun b hlt _ hne => h2.block b hlt (fun e => hne (by rw [hS]; first | exact Option.some.inj e | exact (Option.some.inj e).symm)), fun b hb => ?_⟩
  · rw [hS]
    exact ⟨ρ y, Any.ownsRow_same hrow (fun b hob => h2.block b (hrow.lt b hob).2 (fun e => row_not_map hrow hmw (by first | exact hob.trans e | exact hob.trans e.symm))), h1, fun _ => Iff.rfl⟩
  · rcases hb with rfl | hb
    · exact .inr (.inr (by rw [hS]; exact rfl))
    · exact .inl ⟨j, by rw [hS]; exact List.mem_cons_self, (hOs b).2 hb⟩
end
end Go.Proofs.YtbigoifpfkdkjaaGreatDoor.Ord
namespace Go.Proofs.YtbigoifpfkdkjaaGreatDoor.Sc
open Go Go.RowKit
set_option maxRecDepth 100000
theorem own_pos {w : World} {B sz n : Nat} {e : TypeId} {v : Value} {xs : List Value} (h : w.ownsRow B e sz v n xs) (hn : 0 < n) : ∃ g cap cur, v = .slice (some ⟨g, 0, none⟩) n cap ∧ w.heap[g]? = some (.cells cur e (0, 0)) ∧ B ≤ g := by
  rcases h.2 with ⟨_, h0⟩ | ⟨g, cap, cur, rfl, hg, hh, _⟩
  · omega
  · exact ⟨g, cap, cur, rfl, hh, hg⟩
theorem own_cell {w : World} {B n sz : Nat} {e : TypeId} {g cap : Nat} {xs : List Value} (h : w.ownsRow B e sz (.slice (some ⟨g, 0, none⟩) n cap) n xs) (j : Nat) (u : Value) :
    (w.setCell ⟨g, j, none⟩ u).ownsRow B e sz (.slice (some ⟨g, 0, none⟩) n cap) n (xs.set j u) := by
  obtain ⟨h1, h2⟩ := h
  rcases h2 with ⟨h2, _⟩ | ⟨g', cap', cur, hv, hB, hh, h3, h4, h5, h6⟩
  · cases h2
  simp only [Value.slice.injEq, Option.some.injEq, Addr.mk.injEq, and_true, true_and] at hv
  obtain ⟨rfl, rfl⟩ := hv
  refine ⟨by simpa using h1, .inr ⟨g, cap, cur.setIfInBounds j u, rfl, hB, ?_, h3, h4, by simpa using h5, ?_⟩⟩
  · simp [World.setCell, Array.getElem?_modify, hh]
  · rw [Array.toList_setIfInBounds, ← h6, List.take_set]
theorem own_read {w : World} {B n sz : Nat} {e : TypeId} {g cap : Nat} {xs : List Value} (h : w.ownsRow B e sz (.slice (some ⟨g, 0, none⟩) n cap) n xs) {j : Nat} (hj : j < xs.length) : w.cell? ⟨g, j, none⟩ = some xs[j] ∧ w.frozen? ⟨g, j, none⟩ = false := by
  obtain ⟨h1, h2⟩ := h
  rcases h2 with ⟨h2, _⟩ | ⟨g', cap', cur, hv, hB, hh, h3, h4, h5, h6⟩
  · cases h2
  simp only [Value.slice.injEq, Option.some.injEq, Addr.mk.injEq, and_true, true_and] at hv
  obtain ⟨rfl, rfl⟩ := hv
  refine ⟨?_, free_blk hh _⟩
  rw [cell_blk hh, ← Array.getElem?_toList]
  have h7 : xs[j]? = (cur.toList.take (n * sz))[j]? := by rw [h6]
  rw [List.getElem?_take, if_pos (by omega), List.getElem?_eq_getElem hj] at h7
  exact h7.symm
end Go.Proofs.YtbigoifpfkdkjaaGreatDoor.Sc
namespace Go.Proofs.YtbigoifpfkdkjaaGreatDoor.Ord
open Go Go.RowKit
set_option maxRecDepth 100000
/-- A row that lay there, one cell of it written. -/
def setrow (e : TypeId) (sz n : Nat) (xs : List Value) (v : Value) : Spec := ⟨fun _ _ O w => w.ownsRow 0 e sz v n xs ∧ ∀ k, O k ↔ v.ownBlock = some k, [], fun k => v.ownBlock = some k⟩
theorem lasts_setrow {F : Nat → Prop} {w0 : World} (e : TypeId) (sz n : Nat) (xs : List Value) (v : Value) : Lasts F (setrow e sz n xs v) w0 :=
  ⟨fun _ _ _ _ h k hk => (h.1.lt k ((h.2 k).1 hk)).2, fun _ _ _ _ _ h _ _ _ hs => ⟨Any.ownsRow_same h.1 (fun k hk => hs k ((h.2 k).2 hk)), h.2⟩⟩
section
variable {P : Program} {S : Nat → Spec} {Os : Nat → Nat → Prop} {dst : Option Tmp} {t : TypeId} {pos : String} {after : Array Edge} {gd : Option (Nat × Bool)} {ρ : Operand → Value} {w w0 : World} {i : Nat}
theorem ok_setrow {e : TypeId} {sz n g cap off : Nat} {xs : List Value} {q : IntKind} {c : Int} {x y : Operand} {t' : TypeId} (hp : ρ x = .pointer (some ⟨g, off, none⟩)) (hy : ρ y = .int q c) (hown : w0.ownsRow 0 e sz (.slice (some ⟨g, 0, none⟩) n cap) n xs)
    (hkeep : ∀ k, (Value.slice (some ⟨g, 0, none⟩) n cap).ownBlock = some k → w.heap[k]? = w0.heap[k]?) (hoff : off < xs.length) (hone : ∀ w, (sizeOf t').run P w = .ok 1 w) (hS : S i = setrow e sz n (xs.set off (.int q c)) (.slice (some ⟨g, 0, none⟩) n cap)) :
    Any.OpOk P ⟨dst, .store t' x y, t, pos, after, gd⟩ ρ w (Post S Os i ρ w) := by
  have hw : w.ownsRow 0 e sz (.slice (some ⟨g, 0, none⟩) n cap) n xs := Any.ownsRow_same hown hkeep
  obtain ⟨hc, hf⟩ := Sc.own_read hw hoff
  have hset := Sc.own_cell hw off (.int q c)
  have hg := set_grown w g off (.int q c)
  have hpost : Post S Os i ρ w undef (w.setCell ⟨g, off, none⟩ (.int q c)) := by
    refine ⟨fun k => (Value.slice (some ⟨g, 0, none⟩) n cap).ownBlock = some k, ?_, ⟨hg.os, hg.tape, hg.output⟩, hg.size, fun k hlt _ hn => hg.block k hlt (fun e => hn (by rw [hS]; exact (by first | exact e | exact e.symm))), fun k hk => .inr (.inr (by rw [hS]; exact hk))⟩
    rw [hS]
    exact ⟨hset, fun k => Iff.rfl⟩
  unfold Any.OpOk
  simp only [execOp, hp, hy, Instr.storeAt, Instr.sureAddr, Sem.run_bind, Sem.run_pure, Result.andThen_ok]
  have hr : ((storeVar t' ⟨g, off, none⟩ (.int q c)).run P w) = .ok () (w.setCell ⟨g, off, none⟩ (.int q c)) := by
    have h1 := hone w
    go_simp
  simp [hr, Result.andThen]
  exact hpost
end
end Go.Proofs.YtbigoifpfkdkjaaGreatDoor.Ord
namespace Go.Proofs.YtbigoifpfkdkjaaGreatDoor.Ord
open Go Go.RowKit
set_option maxRecDepth 100000

/-- A struct that holds a row of the region's own. -/
def built (cells : Value → Array Value) (B : Nat) (e : TypeId) (sz n : Nat) (xs : List Value) (tk : List Nat) : Spec :=
  ⟨fun _ v O w => ∃ s, v = .agg (cells s) ∧ w.ownsRow B e sz s n xs ∧ ∀ b, O b ↔ s.ownBlock = some b, tk, fun _ => False⟩
/-- A new box, filled with it. -/
def fillrow (T : TypeId) (cells : Value → Array Value) (B : Nat) (e : TypeId) (sz n : Nat) (xs : List Value) (x : Operand) (tk : List Nat) : Spec :=
  ⟨fun ρ _ O w => ∃ b s, ρ x = .pointer (some ⟨b, 0, none⟩) ∧ w.heap[b]? = some (.cells (cells s) T (0, 0)) ∧ w.ownsRow B e sz s n xs ∧ ∀ k, O k ↔ (k = b ∨ s.ownBlock = some k), tk, fun _ => False⟩
/-- A box that stood, filled with it. -/
def setfill (b : Nat) (T : TypeId) (cells : Value → Array Value) (B : Nat) (e : TypeId) (sz n : Nat) (xs : List Value) (tk : List Nat) : Spec :=
  ⟨fun _ _ O w => ∃ s, w.heap[b]? = some (.cells (cells s) T (0, 0)) ∧ w.ownsRow B e sz s n xs ∧ ∀ k, O k ↔ (k = b ∨ s.ownBlock = some k), tk, fun k => k = b⟩
theorem lasts_built {F : Nat → Prop} {w0 : World} (cells : Value → Array Value) (B : Nat) (e : TypeId) (sz n : Nat) (xs : List Value) (tk : List Nat) : Lasts F (built cells B e sz n xs tk) w0 :=
  ⟨fun _ _ _ _ h b hb => by
    obtain ⟨s, _, h2, h3⟩ := h
    exact (h2.lt b ((h3 b).1 hb)).2, fun _ _ _ _ _ h _ _ _ hs => by
    obtain ⟨s, h1, h2, h3⟩ := h
    exact ⟨s, h1, Any.ownsRow_same h2 (fun b hb => hs b ((h3 b).2 hb)), h3⟩⟩
theorem lasts_fillrow {F : Nat → Prop} {w0 : World} (T : TypeId) (cells : Value → Array Value) (B : Nat) (e : TypeId) (sz n : Nat) (xs : List Value) (x : Operand) (tk : List Nat) : Lasts F (fillrow T cells B e sz n xs x tk) w0 :=
  ⟨fun _ _ _ _ h b hb => by
    obtain ⟨g, s, _, h2, h3, h4⟩ := h
    rcases (h4 b).1 hb with rfl | h5
    · exact Sc.lt_blk h2
    · exact (h3.lt b h5).2, fun _ _ _ _ _ h _ _ _ hs => by
    obtain ⟨g, s, h1, h2, h3, h4⟩ := h
    exact ⟨g, s, h1, (hs g ((h4 g).2 (.inl rfl))).trans h2, Any.ownsRow_same h3 (fun b hb => hs b ((h4 b).2 (.inr hb))), h4⟩⟩
theorem lasts_setfill {F : Nat → Prop} {w0 : World} (b : Nat) (T : TypeId) (cells : Value → Array Value) (B : Nat) (e : TypeId) (sz n : Nat) (xs : List Value) (tk : List Nat) : Lasts F (setfill b T cells B e sz n xs tk) w0 :=
  ⟨fun _ _ _ _ h k hk => by
    obtain ⟨s, h2, h3, h4⟩ := h
    rcases (h4 k).1 hk with rfl | h5
    · exact Sc.lt_blk h2
    · exact (h3.lt k h5).2, fun _ _ _ _ _ h _ _ _ hs => by
    obtain ⟨s, h2, h3, h4⟩ := h
    exact ⟨s, (hs b ((h4 b).2 (.inl rfl))).trans h2, Any.ownsRow_same h3 (fun k hk => hs k ((h4 k).2 (.inr hk))), h4⟩⟩
theorem row_slice {w : World} {B sz n : Nat} {e : TypeId} {v : Value} {xs : List Value} (h : w.ownsRow B e sz v n xs) : ∃ a c, v = .slice a n c := by
  rcases h.2 with ⟨rfl, h0⟩ | ⟨g, cap, cur, rfl, _⟩
  · subst h0; exact ⟨_, _, rfl⟩
  · exact ⟨_, _, rfl⟩
section
variable {P : Program} {S : Nat → Spec} {Os : Nat → Nat → Prop} {dst : Option Tmp} {t : TypeId} {pos : String} {after : Array Edge} {gd : Option (Nat × Bool)} {ρ : Operand → Value} {w w0 : World} {i : Nat}
/-- The struct is built out of operation j's row. -/
theorem post_built {cells : Value → Array Value} {B sz n j : Nat} {e : TypeId} {xs : List Value} {s : Value} {tk : List Nat} (hr : w.ownsRow B e sz s n xs) (hO : ∀ k, Os j k ↔ s.ownBlock = some k) (hj : j ∈ tk) (hS : S i = built cells B e sz n xs tk) : Post S Os i ρ w (.agg (cells s)) w :=
  ⟨fun b => s.ownBlock = some b, by rw [hS]; exact ⟨s, rfl, hr, fun _ => Iff.rfl⟩, ⟨rfl, rfl, rfl⟩, Nat.le_refl _, fun _ _ _ _ => rfl, fun b hb => .inl ⟨j, by rw [hS]; exact hj, (hO b).2 hb⟩⟩
theorem ok_fillrow {T : TypeId} {cells : Value → Array Value} {B sz n j j2 : Nat} {e : TypeId} {xs : List Value} {old : Array Value} {x y : Operand} {tk tk2 : List Nat} (hp : ∃ ρ', (box T old).know ρ' (ρ x) (Os j) w) (hy : ∃ ρ', (built cells B e sz n xs tk2).know ρ' (ρ y) (Os j2) w)
    (hap : ∀ b, Os j b → ¬ Os j2 b) (hi : ∀ s, (P.info? T).map (·.size) = some (cells s).size) (hold : ∀ s, old.size = (cells s).size) (h1 : ∀ a c, (cells (.slice a n c)).all (·.oneCell') = true) (hj : j ∈ tk) (hj2 : j2 ∈ tk)
    (hS : S i = fillrow T cells B e sz n xs x tk) : Any.OpOk P ⟨dst, .store T x y, t, pos, after, gd⟩ ρ w (Post S Os i ρ w) := by
  obtain ⟨_, g, hg, hgb, hO⟩ := hp
  obtain ⟨_, s, hv, hr, hO2⟩ := hy
  obtain ⟨a, c, rfl⟩ := row_slice hr
  have hrun := run_storeVar_row (P := P) w g T T old (cells (.slice a n c)) hgb (hi _) (hold _) (h1 a c)
  have hng : ∀ b, (Value.slice a n c).ownBlock = some b → ¬ g = b := fun b hb e => hap g ((hO g).2 rfl) ((hO2 g).2 (e ▸ hb))
  have hpost : Post S Os i ρ w undef (w.setRow g (cells (.slice a n c))) := by
    refine ⟨fun k => k = g ∨ (Value.slice a n c).ownBlock = some k, ?_, ⟨rfl, rfl, rfl⟩, by simp [World.setRow], fun k _ hn _ => ?_, fun k hk => .inl ?_⟩
    · rw [hS]
      refine ⟨g, .slice a n c, hg, by simp [World.setRow, Array.getElem?_modify, hgb], Any.ownsRow_same hr fun b hb => ?_, fun _ => Iff.rfl⟩
      simp [World.setRow, Array.getElem?_modify, hng b hb]
    · have hkg : ¬ g = k := fun e => hn j (by rw [hS]; exact hj) ((hO k).2 e.symm)
      simp [World.setRow, Array.getElem?_modify, hkg]
    · rcases hk with rfl | hk
      · exact ⟨j, by rw [hS]; exact hj, (hO _).2 rfl⟩
      · exact ⟨j2, by rw [hS]; exact hj2, (hO2 k).2 hk⟩
  unfold Any.OpOk
  simp only [execOp, hg, hv, Instr.storeAt, Instr.sureAddr, Sem.run_bind, Sem.run_pure, Result.andThen_ok]
  simp [hrun, Result.andThen]
  exact hpost
theorem ok_setfill {T : TypeId} {b : Nat} {cells : Value → Array Value} {B sz n j : Nat} {e : TypeId} {xs : List Value} {old : Array Value} {x y : Operand} {tk tk2 : List Nat} (hp : ρ x = .pointer (some ⟨b, 0, none⟩)) (hblk : w0.heap[b]? = some (.cells old T (0, 0))) (hkeep : w.heap[b]? = w0.heap[b]?)
    (hy : ∃ ρ', (built cells B e sz n xs tk2).know ρ' (ρ y) (Os j) w) (hne : e ≠ T) (hi : ∀ s, (P.info? T).map (·.size) = some (cells s).size) (hold : ∀ s, old.size = (cells s).size) (h1 : ∀ a c, (cells (.slice a n c)).all (·.oneCell') = true) (hj : j ∈ tk)
    (hS : S i = setfill b T cells B e sz n xs tk) : Any.OpOk P ⟨dst, .store T x y, t, pos, after, gd⟩ ρ w (Post S Os i ρ w) := by
  have hgb := hkeep.trans hblk
  obtain ⟨_, s, hv, hr, hO2⟩ := hy
  have hng : ∀ k, s.ownBlock = some k → ¬ b = k := by
    rintro k hk rfl
    rcases hr.2 with ⟨h, _⟩ | ⟨g, cap, cur, h, _, hh, _⟩
    · rw [h] at hk; cases hk
    · rw [h] at hk
      obtain rfl : g = b := Option.some.inj hk
      rw [hgb] at hh
      simp only [Option.some.injEq, Obj.cells.injEq] at hh
      exact hne hh.2.1.symm
  obtain ⟨a, c, rfl⟩ := row_slice hr
  have hrun := run_storeVar_row (P := P) w b T T old (cells (.slice a n c)) hgb (hi _) (hold _) (h1 a c)
  have hpost : Post S Os i ρ w undef (w.setRow b (cells (.slice a n c))) := by
    refine ⟨fun k => k = b ∨ (Value.slice a n c).ownBlock = some k, ?_, ⟨rfl, rfl, rfl⟩, by simp [World.setRow], fun k _ _ hn => ?_, fun k hk => ?_⟩
    · rw [hS]
      refine ⟨.slice a n c, by simp [World.setRow, Array.getElem?_modify, hgb], Any.ownsRow_same hr fun k hk => ?_, fun _ => Iff.rfl⟩
      simp [World.setRow, Array.getElem?_modify, hng k hk]
    · have hkg : ¬ b = k := fun e => hn (by rw [hS]; exact e.symm)
      simp [World.setRow, Array.getElem?_modify, hkg]
    · rcases hk with rfl | hk
      · exact .inr (.inr (by rw [hS]; exact rfl))
      · exact .inl ⟨j, by rw [hS]; exact hj, (hO2 k).2 hk⟩
  unfold Any.OpOk
  simp only [execOp, hp, hv, Instr.storeAt, Instr.sureAddr, Sem.run_bind, Sem.run_pure, Result.andThen_ok]
  simp [hrun, Result.andThen]
  exact hpost
end
end Go.Proofs.YtbigoifpfkdkjaaGreatDoor.Ord
