/- Goods: the plain law; May of both, Find. New of a table: the program's and the document's. -/
import Derived.Test.YtbigoifpfkdkjaaGreatDoorTe01
import Derived.Test.YtbigoifpfkdkjaaGreatDoorTe03
import Derived.Test.YtbigoifpfkdkjaaGreatDoorTe07
import Derived.Test.YtbigoifpfkdkjaaGreatDoorTe05
import Derived.Test.YtbigoifpfkdkjaaGreatDoorTe11
import Derived.StillTailTactics
import Derived.OwnWalk
namespace Go.Proofs.YtbigoifpfkdkjaaGreatDoor.Sc
open Go Go.RowKit Go.ChangeShapes Go.WideShapes Go.ChangeAt
set_option maxRecDepth 100000

structure Gd where
  code : ByteArray
  cls : Int
  wt : Int
  vol : Int
def Gd.row (g : Gd) : List Value := [.string g.code, .int .i64 g.cls, .int .i64 g.wt, .int .i64 g.vol]
def Gd.val (g : Gd) : Value := .agg #[.string g.code, .int .i64 g.cls, .int .i64 g.wt, .int .i64 g.vol]
structure Gd.fit (g : Gd) : Prop where
  code : g.code.size ≤ maxLen
def cntOk (n : Int) : Bool := decide (1 ≤ n) && decide (n ≤ 1048576)
def gdOk (g : Gd) : Bool := nameOk g.code && (decide (0 ≤ g.cls) && (decide (g.cls < 10) && (cntOk g.wt && cntOk g.vol)))
theorem cnt_any (n : Int) (w : World) : Calls Tryz.prog 140 #[.int .i64 n] w (RetB w (cntOk n)) := by
  go_enter Tryz.func140, Tryz.ntmps140
  go_wp2
  all_goals
    go_ret
    exact retB (by rw [Bool.eq_iff_iff]; simp only [cntOk, Bool.and_eq_true, decide_eq_true_eq, Bool.false_eq_true, false_iff]; omega) (Below.refl _ _)
theorem gd_cells {w : World} {b : Nat} {x0 x1 x2 x3 : Value} {T : TypeId} (h : w.heap[b]? = some (.cells #[x0, x1, x2, x3] T (0, 0))) :
    w.cell? ⟨b, 0, none⟩ = some x0 ∧ w.cell? ⟨b, 1, none⟩ = some x1 ∧ w.cell? ⟨b, 2, none⟩ = some x2 ∧ w.cell? ⟨b, 3, none⟩ = some x3 := ⟨cell_blk h 0, cell_blk h 1, cell_blk h 2, cell_blk h 3⟩
set_option maxHeartbeats 4000000 in
theorem mayG_any (g : Gd) (w : World) (hf : g.fit) : Calls Tryz.prog 80 #[g.val] w (RetB w (gdOk g)) := by
  obtain ⟨n, c, wt, vo⟩ := g
  have HN := fun W => markName_any n W
  have HC1 := fun W => cnt_any wt W
  have HC2 := fun W => cnt_any vo W
  have HX0 := Lib.hid (heap_alloc_new w (.cells #[.string n, .int .i64 c, .int .i64 wt, .int .i64 vo] 84))
  obtain ⟨R, hR⟩ : ∃ R, R = gdOk ⟨n, c, wt, vo⟩ := ⟨_, rfl⟩
  rw [← hR]
  simp only [gdOk] at hR
  simp only [Gd.val]
  obtain ⟨b0, t0⟩ : ∃ b, nameOk n = b := ⟨_, rfl⟩
  rw [t0] at hR HN
  clear t0
  obtain ⟨b1, t1⟩ : ∃ b, decide (0 ≤ c) = b := ⟨_, rfl⟩
  rw [t1] at hR
  obtain ⟨b2, t2⟩ : ∃ b, decide (c < 10) = b := ⟨_, rfl⟩
  rw [t2] at hR
  obtain ⟨b3, t3⟩ : ∃ b, cntOk wt = b := ⟨_, rfl⟩
  rw [t3] at hR HC1
  clear t3
  obtain ⟨b4, t4⟩ : ∃ b, cntOk vo = b := ⟨_, rfl⟩
  rw [t4] at hR HC2
  clear t4
  have HR := Lib.hid hR
  clear hf hR
  cases b0
  · skip
    go_enter Tryz.func80, Tryz.ntmps80
    go_wp2_with (first
      | ((with_reducible refine (HN _).mono ?_); rintro e w1 ⟨rfl, hb1⟩; have HB := Lib.hid (below_then (one_below _ _) hb1); have HX := Lib.hid (blk hb1 (lt_blk HX0.out) HX0.out); obtain ⟨x0, x1, x2, x3⟩ := gd_cells HX.out; clear hb1)
      | ((with_reducible refine (HC1 _).mono ?_); rintro e w2 ⟨rfl, hb2⟩; have HX := Lib.hid (blk hb2 (lt_blk HX.out) HX.out); have HB := Lib.hid (HB.out.trans (hb2.mono HB.out.size)); obtain ⟨x0, x1, x2, x3⟩ := gd_cells HX.out; clear hb2)
      | ((with_reducible refine (HC2 _).mono ?_); rintro e w3 ⟨rfl, hb3⟩; have HX := Lib.hid (blk hb3 (lt_blk HX.out) HX.out); have HB := Lib.hid (HB.out.trans (hb3.mono HB.out.size)); obtain ⟨x0, x1, x2, x3⟩ := gd_cells HX.out; clear hb3)
      | fail)
    go_ret
    exact retB (by rw [HR.out]; rfl) HB.out
  · skip
    cases b1
    · skip
      go_enter Tryz.func80, Tryz.ntmps80
      go_wp2_with (first
        | ((with_reducible refine (HN _).mono ?_); rintro e w1 ⟨rfl, hb1⟩; have HB := Lib.hid (below_then (one_below _ _) hb1); have HX := Lib.hid (blk hb1 (lt_blk HX0.out) HX0.out); obtain ⟨x0, x1, x2, x3⟩ := gd_cells HX.out; clear hb1)
        | ((with_reducible refine (HC1 _).mono ?_); rintro e w2 ⟨rfl, hb2⟩; have HX := Lib.hid (blk hb2 (lt_blk HX.out) HX.out); have HB := Lib.hid (HB.out.trans (hb2.mono HB.out.size)); obtain ⟨x0, x1, x2, x3⟩ := gd_cells HX.out; clear hb2)
        | ((with_reducible refine (HC2 _).mono ?_); rintro e w3 ⟨rfl, hb3⟩; have HX := Lib.hid (blk hb3 (lt_blk HX.out) HX.out); have HB := Lib.hid (HB.out.trans (hb3.mono HB.out.size)); obtain ⟨x0, x1, x2, x3⟩ := gd_cells HX.out; clear hb3)
        | fail)
      go_ret
      exact retB (by rw [HR.out]; rfl) HB.out
    · skip
      cases b2
      · skip
        go_enter Tryz.func80, Tryz.ntmps80
        go_wp2_with (first
          | ((with_reducible refine (HN _).mono ?_); rintro e w1 ⟨rfl, hb1⟩; have HB := Lib.hid (below_then (one_below _ _) hb1); have HX := Lib.hid (blk hb1 (lt_blk HX0.out) HX0.out); obtain ⟨x0, x1, x2, x3⟩ := gd_cells HX.out; clear hb1)
          | ((with_reducible refine (HC1 _).mono ?_); rintro e w2 ⟨rfl, hb2⟩; have HX := Lib.hid (blk hb2 (lt_blk HX.out) HX.out); have HB := Lib.hid (HB.out.trans (hb2.mono HB.out.size)); obtain ⟨x0, x1, x2, x3⟩ := gd_cells HX.out; clear hb2)
          | ((with_reducible refine (HC2 _).mono ?_); rintro e w3 ⟨rfl, hb3⟩; have HX := Lib.hid (blk hb3 (lt_blk HX.out) HX.out); have HB := Lib.hid (HB.out.trans (hb3.mono HB.out.size)); obtain ⟨x0, x1, x2, x3⟩ := gd_cells HX.out; clear hb3)
          | fail)
        go_ret
        exact retB (by rw [HR.out]; rfl) HB.out
      · skip
        cases b3
        · skip
          go_enter Tryz.func80, Tryz.ntmps80
          go_wp2_with (first
            | ((with_reducible refine (HN _).mono ?_); rintro e w1 ⟨rfl, hb1⟩; have HB := Lib.hid (below_then (one_below _ _) hb1); have HX := Lib.hid (blk hb1 (lt_blk HX0.out) HX0.out); obtain ⟨x0, x1, x2, x3⟩ := gd_cells HX.out; clear hb1)
            | ((with_reducible refine (HC1 _).mono ?_); rintro e w2 ⟨rfl, hb2⟩; have HX := Lib.hid (blk hb2 (lt_blk HX.out) HX.out); have HB := Lib.hid (HB.out.trans (hb2.mono HB.out.size)); obtain ⟨x0, x1, x2, x3⟩ := gd_cells HX.out; clear hb2)
            | ((with_reducible refine (HC2 _).mono ?_); rintro e w3 ⟨rfl, hb3⟩; have HX := Lib.hid (blk hb3 (lt_blk HX.out) HX.out); have HB := Lib.hid (HB.out.trans (hb3.mono HB.out.size)); obtain ⟨x0, x1, x2, x3⟩ := gd_cells HX.out; clear hb3)
            | fail)
          go_ret
          exact retB (by rw [HR.out]; rfl) HB.out
        · skip
          cases b4
          · skip
            go_enter Tryz.func80, Tryz.ntmps80
            go_wp2_with (first
              | ((with_reducible refine (HN _).mono ?_); rintro e w1 ⟨rfl, hb1⟩; have HB := Lib.hid (below_then (one_below _ _) hb1); have HX := Lib.hid (blk hb1 (lt_blk HX0.out) HX0.out); obtain ⟨x0, x1, x2, x3⟩ := gd_cells HX.out; clear hb1)
              | ((with_reducible refine (HC1 _).mono ?_); rintro e w2 ⟨rfl, hb2⟩; have HX := Lib.hid (blk hb2 (lt_blk HX.out) HX.out); have HB := Lib.hid (HB.out.trans (hb2.mono HB.out.size)); obtain ⟨x0, x1, x2, x3⟩ := gd_cells HX.out; clear hb2)
              | ((with_reducible refine (HC2 _).mono ?_); rintro e w3 ⟨rfl, hb3⟩; have HX := Lib.hid (blk hb3 (lt_blk HX.out) HX.out); have HB := Lib.hid (HB.out.trans (hb3.mono HB.out.size)); obtain ⟨x0, x1, x2, x3⟩ := gd_cells HX.out; clear hb3)
              | fail)
            go_ret
            exact retB (by rw [HR.out]; rfl) HB.out
          · skip
            go_enter Tryz.func80, Tryz.ntmps80
            go_wp2_with (first
              | ((with_reducible refine (HN _).mono ?_); rintro e w1 ⟨rfl, hb1⟩; have HB := Lib.hid (below_then (one_below _ _) hb1); have HX := Lib.hid (blk hb1 (lt_blk HX0.out) HX0.out); obtain ⟨x0, x1, x2, x3⟩ := gd_cells HX.out; clear hb1)
              | ((with_reducible refine (HC1 _).mono ?_); rintro e w2 ⟨rfl, hb2⟩; have HX := Lib.hid (blk hb2 (lt_blk HX.out) HX.out); have HB := Lib.hid (HB.out.trans (hb2.mono HB.out.size)); obtain ⟨x0, x1, x2, x3⟩ := gd_cells HX.out; clear hb2)
              | ((with_reducible refine (HC2 _).mono ?_); rintro e w3 ⟨rfl, hb3⟩; have HX := Lib.hid (blk hb3 (lt_blk HX.out) HX.out); have HB := Lib.hid (HB.out.trans (hb3.mono HB.out.size)); obtain ⟨x0, x1, x2, x3⟩ := gd_cells HX.out; clear hb3)
              | fail)
            go_ret
            exact retB (by rw [HR.out]; rfl) HB.out
/-- Where a good stands; -1: nowhere. -/
def gFind (n : ByteArray) : Nat → List Gd → Int
  | _, [] => -1
  | k, g :: l => if g.code = n then k else gFind n (k + 1) l
def gOf (l : List Gd) (n : ByteArray) : Option Gd := l.find? fun g => decide (g.code = n)
theorem gFind_of (n : ByteArray) : ∀ (l : List Gd) (k : Nat), (gFind n k l = -1 ∧ gOf l n = none) ∨ ∃ j, ∃ h : j < l.length, gFind n k l = ((k + j : Nat) : Int) ∧ gOf l n = some l[j]
  | [], k => .inl ⟨rfl, rfl⟩
  | g :: l, k => by
    by_cases h : g.code = n
    · exact .inr ⟨0, by simp, by simp [gFind, h], by rw [gOf, List.find?_cons_of_pos (by simpa using h)]; rfl⟩
    · rw [gFind, if_neg h, gOf, List.find?_cons_of_neg (by simpa using h)]
      rcases gFind_of n l (k + 1) with h1 | ⟨j, hj, h1, h2⟩
      · exact .inl h1
      · exact .inr ⟨j + 1, by simp; omega, by rw [h1]; congr 1; omega, by rw [← gOf, h2]; rfl⟩
end Go.Proofs.YtbigoifpfkdkjaaGreatDoor.Sc
namespace Go.Proofs.YtbigoifpfkdkjaaGreatDoor.Sc
open Go Go.RowKit Go.ChangeShapes Go.WideShapes Go.ChangeAt
set_option maxRecDepth 100000

instance decMem (n : ByteArray) (S : List ByteArray) : Decidable (n ∈ S) := decidable_of_iff (S.any (fun m => decide (n = m)) = true) (by simp)
def gEnts (l : List Gd) : Mp.Ents := l.map fun g => (g.code, g.val)
def codes (l : List Gd) : List ByteArray := l.map Gd.code
/-- Does a code stand twice, of rest, or there already? -/
def dupG : List ByteArray → List Gd → Bool
  | _, [] => false
  | seen, g :: r => decide (g.code ∈ seen) || dupG (seen ++ [g.code]) r
def tabC (l : List Gd) : Int := if l.any (fun g => !gdOk g) = true then 1 else if dupG [] l = true then 5 else if 4096 < l.length then 7 else 0
theorem dupG_nodup : ∀ (l : List Gd) (seen : List ByteArray), seen.Nodup → dupG seen l = false → (seen ++ codes l).Nodup
  | [], seen, hs, _ => by simpa [codes] using hs
  | g :: r, seen, hs, h => by
    simp only [dupG, Bool.or_eq_false_iff, decide_eq_false_iff_not] at h
    have := dupG_nodup r (seen ++ [g.code]) (List.nodup_append.2 ⟨hs, by simp, fun a ha b hb => by rw [List.mem_singleton.1 hb]; rintro rfl; exact h.1 ha⟩) h.2
    simpa [codes] using this
theorem dupG_next {l : List Gd} {k : Nat} (h : k < l.length) : dupG (codes (l.take k)) (l.drop k) = (decide (l[k].code ∈ codes (l.take k)) || dupG (codes (l.take (k + 1))) (l.drop (k + 1))) := by
  have e : codes (l.take (k + 1)) = codes (l.take k) ++ [l[k].code] := by unfold codes; rw [List.take_succ_eq_append_getElem h, List.map_append]; rfl
  rw [List.drop_eq_getElem_cons h, dupG, e]
theorem tabC_ok {l : List Gd} (h : tabC l = 0) : (∀ g ∈ l, gdOk g = true) ∧ (codes l).Nodup ∧ l.length ≤ 4096 := by
  unfold tabC at h
  split at h
  · cases h
  · rename_i h1
    split at h
    · cases h
    · rename_i h2
      split at h
      · cases h
      · rename_i h3
        refine ⟨fun g hg => ?_, ?_, by omega⟩
        · have := List.any_eq_false.1 (Bool.eq_false_iff.2 h1) g hg
          simpa using this
        · have := dupG_nodup l [] (by simp) (by simpa using h2)
          simpa using this
theorem gFind_mem {l : List Gd} {n : ByteArray} : decide (0 ≤ gFind n 0 l) = decide (n ∈ codes l) := by
  rcases gFind_of n l 0 with ⟨h1, h2⟩ | ⟨j, hj, h1, h2⟩
  · rw [h1]
    have : n ∉ codes l := fun h => by
      obtain ⟨g, hg, rfl⟩ := List.mem_map.1 h
      have := List.find?_eq_none.1 h2 g hg
      simp at this
    rw [decide_eq_false this]; rfl
  · have : n ∈ codes l := by
      have h3 := List.find?_some h2
      exact List.mem_map.2 ⟨l[j], List.getElem_mem hj, by simpa using h3⟩
    rw [h1, decide_eq_true this, decide_eq_true (by omega)]
theorem gEnts_get {l : List Gd} (h : (codes l).Nodup) (n : ByteArray) : Mp.mget (gEnts l) n = (gOf l n).map Gd.val := by
  induction l with
  | nil => rfl
  | cons g r ih =>
    simp only [codes, List.map_cons, List.nodup_cons] at h
    by_cases hn : n = g.code
    · subst hn
      rw [gOf, List.find?_cons_of_pos (by simp)]
      simp [gEnts, Mp.mget]
    · rw [gOf, List.find?_cons_of_neg (by simpa using fun e => hn e.symm), ← gOf, ← ih h.2]
      simp [gEnts, Mp.mget, hn]
theorem gOf_none {l : List Gd} {n : ByteArray} : gOf l n = none ↔ n ∉ codes l := by
  rw [gOf, List.find?_eq_none]
  constructor
  · rintro h hm
    obtain ⟨g, hg, rfl⟩ := List.mem_map.1 hm
    exact h g hg (by simp)
  · intro h g hg he
    exact h (List.mem_map.2 ⟨g, hg, by simpa using he⟩)
theorem gOf_mem {l : List Gd} {n : ByteArray} {g : Gd} (h : gOf l n = some g) : g ∈ l ∧ g.code = n := ⟨List.mem_of_find?_eq_some h, by simpa using List.find?_some h⟩
theorem gEnts_keys (l : List Gd) : Mp.mkeys (gEnts l) = codes l := by simp [Mp.mkeys, gEnts, codes, List.map_map, Function.comp_def]
/-- A table in memory. -/
def Tab (w : World) (bt bm : Nat) (l : List Gd) : Prop := w.heap[bt]? = some (.cells #[.map (some bm)] 171 (0, 0)) ∧ Mp.MapAt w bm (gEnts l)
theorem Tab.below {w w' : World} {bt bm : Nat} {l : List Gd} (h : Tab w bt bm l) (hb : Below w.heap.size w w') : Tab w' bt bm l := ⟨blk hb (lt_blk h.1) h.1, h.2.same (hb.block _ h.2.lt)⟩
def NewG (w : World) (l : List Gd) (e : Ending) (w' : World) : Prop :=
  Below w.heap.size w w' ∧ ((tabC l ≠ 0 ∧ e = .returned (.tuple #[.pointer none, .int .i64 (tabC l)])) ∨ (tabC l = 0 ∧ ∃ bt bm, e = .returned (.tuple #[.pointer (some ⟨bt, 0, none⟩), .int .i64 0]) ∧ Tab w' bt bm l))
theorem newG_err {w w' : World} {l : List Gd} {c : Int} (h : tabC l = c) (hc : c ≠ 0) (hb : Below w.heap.size w w') : NewG w l (.returned (.tuple #[.pointer none, .int .i64 c])) w' := ⟨hb, .inl ⟨by rw [h]; exact hc, by rw [h]⟩⟩
theorem zeroGd (w : World) : (zeroValue 84).run Tryz.prog w = .ok (.agg #[.string ⟨#[]⟩, .int .i64 0, .int .i64 0, .int .i64 0]) w := by kernel_rfl
theorem any_nextG {l : List Gd} {k : Nat} (h : k < l.length) (f : Gd → Bool) : (l.drop k).any f = (f l[k] || (l.drop (k + 1)).any f) := by rw [List.drop_eq_getElem_cons h, List.any_cons]
end Go.Proofs.YtbigoifpfkdkjaaGreatDoor.Sc
namespace Go.Proofs.YtbigoifpfkdkjaaGreatDoor.Sc
open Go Go.RowKit Go.ChangeShapes Go.WideShapes Go.ChangeAt
set_option maxRecDepth 100000

set_option maxHeartbeats 8000000 in
theorem newG_any (l : List Gd) (v : Value) (w : World) (hs : Sl w 4 v (l.map Gd.row)) (hl : l.length ≤ 4000) (hf : ∀ g ∈ l, g.fit) :
    Calls Tryz.prog 27 #[v] w (NewG w l) := by
  obtain ⟨a, c, rfl⟩ : ∃ a c, v = .slice a l.length c := by simpa using hs.shape
  have hll : (l.length : Int) ≤ 4000 := by omega
  have HL := Lib.hid hl
  have HF := Lib.hid hf
  have HS := Lib.hid hs
  obtain ⟨f, hff⟩ : ∃ f : Gd → Bool, f = fun g => !gdOk g := ⟨_, rfl⟩
  have HTC0 : Hid (tabC l = if l.any f = true then 1 else if dupG [] l = true then 5 else 0) := Lib.hid (by rw [hff, tabC]; split; rfl; split; rfl; rw [if_neg (by omega)])
  have HFF : Hid (∀ g, f g = !gdOk g) := Lib.hid (fun g => by rw [hff])
  have tm : ∀ W : World, (Instr.makeMap 169 none).run Tryz.prog W = .ok (.map (some W.heap.size)) (W.alloc (.map #[] 0)) := fun W => by kernel_rfl
  have tl : decide ((4096 : Int) < l.length) = false := decide_eq_false (by omega)
  clear hs hl hf hff
  go_enter Tryz.func27, Tryz.ntmps27
  go_wp2_with fail
  go_loopw [5, 13] (fun _ i wr => ∃ k : Nat, k ≤ l.length ∧ i = .int .i64 k ∧ l.any f = (l.drop k).any f ∧ Below w.heap.size w wr) (fun _ i _ => l.length - (intOf i).toNat)
  case atStart => exact ⟨0, Nat.zero_le _, rfl, rfl, Below.refl _ _⟩
  case round =>
    obtain ⟨k, hk, rfl, hrel, hbel⟩ := hrel
    have HBEL := Lib.hid hbel
    by_cases hlt : k < l.length
    · obtain ⟨b, off, rfl, -, hb, hc⟩ := HS.out.at (i := k) (by simpa using hlt)
      have d0 := (hbel.cell (p := ⟨b, off + k * 4, none⟩) hb).trans (hc k l[k].row (by simp [hlt]) 0 _ rfl)
      have d1 := (hbel.cell (p := ⟨b, off + k * 4 + 1, none⟩) hb).trans (hc k l[k].row (by simp [hlt]) 1 _ rfl)
      have d2 := (hbel.cell (p := ⟨b, off + k * 4 + 2, none⟩) hb).trans (hc k l[k].row (by simp [hlt]) 2 _ rfl)
      have d3 := (hbel.cell (p := ⟨b, off + k * 4 + 3, none⟩) hb).trans (hc k l[k].row (by simp [hlt]) 3 _ rfl)
      rw [any_nextG hlt, HFF.out] at hrel
      have HFK := Lib.hid (HF.out l[k] (List.getElem_mem hlt))
      generalize l[k] = x at *
      obtain ⟨xn, xc, xw, xv⟩ := x
      simp only at d0 d1 d2 d3
      have MAY := Lib.hid (fun W => mayG_any ⟨xn, xc, xw, xv⟩ W HFK.out)
      simp only [Gd.val] at MAY
      clear hc hbel
      cases ho : gdOk ⟨xn, xc, xw, xv⟩
      · rw [ho] at MAY hrel
        have HQ : Hid (tabC l = 1) := Lib.hid (by rw [HTC0.out, if_pos (by rw [hrel]; rfl)])
        clear ho hrel tm tl
        go_wp2_with (first
          | ((with_reducible refine (MAY.out _).mono ?_); rintro e w2 ⟨rfl, hb2⟩; have HB2 := Lib.hid (below_then (one_below _ _) hb2); clear hb2)
          | fail)
        go_ret2
        exact newG_err HQ.out (by decide) (HBEL.out.trans (HB2.out.mono HBEL.out.size))
      · rw [ho] at MAY hrel
        have HR := Lib.hid hrel
        clear ho hrel tm tl
        go_wp2_with (first
          | ((with_reducible refine (MAY.out _).mono ?_); rintro e w2 ⟨rfl, hb2⟩; have HB2 := Lib.hid (below_then (one_below _ _) hb2); clear hb2)
          | fail)
        go_roundw
        case rel => exact ⟨k + 1, by omega, by go_num, by rw [HR.out]; rfl, HBEL.out.trans (HB2.out.mono HBEL.out.size)⟩
        case measure => (simp [intOf]) <;> omega
    · have HTC1 : Hid (tabC l = if dupG (codes (l.take 0)) (l.drop 0) = true then 5 else 0) := Lib.hid (by
        rw [HTC0.out, if_neg]
        · rfl
        · rw [hrel, List.drop_of_length_le (by omega)]; exact Bool.false_ne_true)
      clear hrel hbel
      go_wp2_with fail
      obtain ⟨w1, hw1⟩ : ∃ x, x = (wr.alloc (.map #[] 0)).alloc (.cells #[.map (some wr.heap.size)] 171) := ⟨_, rfl⟩
      have HB1 : Hid (Below w.heap.size w w1) := Lib.hid (hw1 ▸ HBEL.out.trans (((one_below _ _).alloc (by simp) _).mono HBEL.out.size))
      have HT1 : Hid (Tab w1 (wr.heap.size + 1) wr.heap.size (l.take 0)) := Lib.hid (by
        refine ⟨?_, (Mp.MapAt.made wr).same ?_⟩
        · rw [hw1]; have := heap_alloc_new (wr.alloc (.map #[] 0)) (.cells #[.map (some wr.heap.size)] 171); simpa using this
        · rw [hw1]; exact Below.heap_alloc _ _ _ (by simp))
      obtain ⟨bm, hbm⟩ : ∃ b, b = wr.heap.size := ⟨_, rfl⟩
      obtain ⟨bt, hbt⟩ : ∃ b, b = wr.heap.size + 1 := ⟨_, rfl⟩
      rw [← hbt, ← hbm] at HT1
      have HBM : Hid (w.heap.size ≤ bm) := Lib.hid (by have := HBEL.out.size; omega)
      have HNE : Hid (¬ bm = bt) := Lib.hid (by omega)
      rw [← hw1, ← hbt]
      clear hw1 hbt hbm tm tl
      go_loopw [8, 9, 10, 26] (fun _ _ _ i wr => ∃ k : Nat, k ≤ l.length ∧ i = .int .i64 k ∧ dupG [] l = dupG (codes (l.take k)) (l.drop k) ∧ Tab wr bt bm (l.take k) ∧ Below w.heap.size w wr) (fun _ _ _ i _ => l.length - (intOf i).toNat)
      case atStart => exact ⟨0, Nat.zero_le _, rfl, rfl, HT1.out, HB1.out⟩
      case round =>
        obtain ⟨k, hk, rfl, hrel, htab, hbel⟩ := hrel
        have HBEL := Lib.hid hbel
        have HTB0 := Lib.hid htab.1
        have HMP0 := Lib.hid htab.2
        by_cases hlt : k < l.length
        · obtain ⟨b, off, rfl, -, hb, hc⟩ := HS.out.at (i := k) (by simpa using hlt)
          have d0 := (hbel.cell (p := ⟨b, off + k * 4, none⟩) hb).trans (hc k l[k].row (by simp [hlt]) 0 _ rfl)
          have d1 := (hbel.cell (p := ⟨b, off + k * 4 + 1, none⟩) hb).trans (hc k l[k].row (by simp [hlt]) 1 _ rfl)
          have d2 := (hbel.cell (p := ⟨b, off + k * 4 + 2, none⟩) hb).trans (hc k l[k].row (by simp [hlt]) 2 _ rfl)
          have d3 := (hbel.cell (p := ⟨b, off + k * 4 + 3, none⟩) hb).trans (hc k l[k].row (by simp [hlt]) 3 _ rfl)
          have hnd : (codes (l.take k)).Nodup := by have := htab.2.nodup; rwa [gEnts_keys] at this
          have hg := gEnts_get hnd l[k].code
          have hmem := @gOf_none (l.take k) l[k].code
          have hE : gEnts (l.take (k + 1)) = gEnts (l.take k) ++ [(l[k].code, l[k].val)] := by unfold gEnts; rw [List.take_succ_eq_append_getElem hlt, List.map_append]; rfl
          rw [dupG_next hlt] at hrel
          generalize l[k] = x at *
          obtain ⟨xn, xc, xw, xv⟩ := x
          simp only at d0 d1 d2 d3 hg hmem hrel
          simp only [Gd.val] at hE
          clear hc hbel hnd htab
          have HX0 := Lib.hid (heap_alloc_new wr (.cells #[.string xn, .int .i64 xc, .int .i64 xw, .int .i64 xv] 84))
          have HB0 := Lib.hid (one_below wr (.cells #[.string xn, .int .i64 xc, .int .i64 xw, .int .i64 xv] 84))
          have HGG := Lib.hid hg
          have HMM := Lib.hid hmem
          have HRR := Lib.hid hrel
          have HE := Lib.hid hE
          clear hg hmem hrel hE
          go_wp2_with fail
          obtain ⟨w3, hw3⟩ : ∃ x, x = wr.alloc (.cells #[.string xn, .int .i64 xc, .int .i64 xw, .int .i64 xv] 84) := ⟨_, rfl⟩
          obtain ⟨bx, hbx⟩ : ∃ b, b = wr.heap.size := ⟨_, rfl⟩
          rw [← hw3] at HX0 HB0 ⊢
          rw [← hbx] at HX0 ⊢
          have HB3 := Lib.hid (HBEL.out.trans (HB0.out.mono HBEL.out.size))
          have HTC : Hid (∀ W, Below w3.heap.size w3 W → W.cell? ⟨bt, 0, none⟩ = some (.map (some bm))) := Lib.hid (fun W hW => cell_blk (blk (below_then HB0.out hW) (lt_blk HTB0.out) HTB0.out) 0)
          have HTB : Hid (∀ W, Below w3.heap.size w3 W → W.heap[bt]? = some (.cells #[.map (some bm)] 171 (0, 0))) := Lib.hid (fun W hW => blk (below_then HB0.out hW) (lt_blk HTB0.out) HTB0.out)
          have HMP : Hid (∀ W, Below w3.heap.size w3 W → Mp.MapAt W bm (gEnts (l.take k))) := Lib.hid (fun W hW => HMP0.out.same ((below_then HB0.out hW).block bm HMP0.out.lt))
          have HXC : Hid (∀ W, Below w3.heap.size w3 W → W.cell? ⟨bx, 0, none⟩ = some (.string xn) ∧ W.cell? ⟨bx, 1, none⟩ = some (.int .i64 xc) ∧ W.cell? ⟨bx, 2, none⟩ = some (.int .i64 xw) ∧ W.cell? ⟨bx, 3, none⟩ = some (.int .i64 xv)) := Lib.hid (fun W hW => gd_cells (blk hW (lt_blk HX0.out) HX0.out))
          have HKC : Hid (∀ W, Below w3.heap.size w3 W → W.cell? ⟨bx, 0, none⟩ = some (.string xn)) := Lib.hid (fun W hW => (HXC.out W hW).1)
          clear hw3 hbx d0 d1 d2 d3
          cases hgo : gOf (l.take k) xn with
          | none =>
            have hnm := HMM.out.1 hgo
            have HGT : Hid (Mp.mget (gEnts (l.take k)) xn = none) := Lib.hid (by rw [HGG.out, hgo]; rfl)
            have HDN : Hid (dupG [] l = dupG (codes (l.take (k + 1))) (l.drop (k + 1))) := Lib.hid (by rw [HRR.out, decide_eq_false hnm, Bool.false_or])
            have HTE : Hid (gEnts (l.take (k + 1)) = Mp.mput (gEnts (l.take k)) xn (.agg #[.string xn, .int .i64 xc, .int .i64 xw, .int .i64 xv])) := Lib.hid (by rw [HE.out, Mp.mput_new _ (Mp.mget_none.1 HGT.out)])
            clear hgo hnm
            refine Any.region_lit (fun
              | 0 => Any.val (.pointer (some ⟨bt, 0, none⟩))
              | 1 => Any.val (.pointer (some ⟨bt, 0, none⟩))
              | 2 => Any.val (.pointer (some ⟨bt, 0, none⟩))
              | 3 => Any.val (.map (some bm))
              | 4 => Any.val (.pointer (some ⟨bx, 0, none⟩))
              | 5 => Any.val (.string xn)
              | 6 => Any.val (.tuple #[.agg #[.string ⟨#[]⟩, .int .i64 0, .int .i64 0, .int .i64 0], .bool false])
              | 7 => Any.val (.tuple #[.agg #[.string ⟨#[]⟩, .int .i64 0, .int .i64 0, .int .i64 0], .bool false])
              | 8 => Any.val (.agg #[.string ⟨#[]⟩, .int .i64 0, .int .i64 0, .int .i64 0])
              | 9 => Any.val (.bool false)
              | 10 => Any.boxS w3.heap.size 84 #[.string ⟨#[]⟩, .int .i64 0, .int .i64 0, .int .i64 0]
              | 11 => ⟨fun _ _ => True, fun _ => none, [10]⟩
              | 12 => Any.val (.bool false)
              | _ => Any.idle) (by kernel_rfl) (by kernel_rfl) (by kernel_rfl) ?_ ?_ ?_
            · intro i _
              match i with
              | 0 => exact Any.lasts_val _
              | 1 => exact Any.lasts_val _
              | 2 => exact Any.lasts_val _
              | 3 => exact Any.lasts_val _
              | 4 => exact Any.lasts_val _
              | 5 => exact Any.lasts_val _
              | 6 => exact Any.lasts_val _
              | 7 => exact Any.lasts_val _
              | 8 => exact Any.lasts_val _
              | 9 => exact Any.lasts_val _
              | 10 => exact Any.lasts_box _ _ _
              | 11 => exact Any.lasts_lost _
              | 12 => exact Any.lasts_val _
              | n + 13 => exact Any.lasts_idle
            · refine ⟨?_, ?_, ?_, ?_, ?_, ?_, ?_, ?_, ?_, ?_, ?_, ?_, ?_, trivial⟩
              · refine Any.owes_plain rfl fun ρ wo hs' hb hc' => ?_
                have h6 : ρ (.tmp 6) = .pointer (some ⟨bt, 0, none⟩) := hs'.old' 6 (by kernel_rfl)
                exact Any.ok_move (Any.post_val hb rfl h6)
              · refine Any.owes_plain rfl fun ρ wo hs' hb hc' => ?_
                have h31 : ρ (.tmp 31) = .pointer (some ⟨bt, 0, none⟩) := hs'.new' 31 0 (by kernel_rfl)
                go_simp
                exact Any.post_val hb rfl rfl
              · refine Any.owes_plain rfl fun ρ wo hs' hb hc' => ?_
                have h32 : ρ (.tmp 32) = .pointer (some ⟨bt, 0, none⟩) := hs'.new' 32 1 (by kernel_rfl)
                go_simp
                exact Any.post_val hb rfl rfl
              · refine Any.owes_plain rfl fun ρ wo hs' hb hc' => ?_
                have h33 : ρ (.tmp 33) = .pointer (some ⟨bt, 0, none⟩) := hs'.new' 33 2 (by kernel_rfl)
                have c0 := (HTC.out wo (below_undrew hb))
                go_simp
                exact Any.post_val hb rfl rfl
              · refine Any.owes_plain rfl fun ρ wo hs' hb hc' => ?_
                have h8 : ρ (.tmp 8) = .pointer (some ⟨bx, 0, none⟩) := hs'.old' 8 (by kernel_rfl)
                go_simp
                exact Any.post_val hb rfl rfl
              · refine Any.owes_plain rfl fun ρ wo hs' hb hc' => ?_
                have h35 : ρ (.tmp 35) = .pointer (some ⟨bx, 0, none⟩) := hs'.new' 35 4 (by kernel_rfl)
                have c0 := (HKC.out wo (below_undrew hb))
                go_simp
                exact Any.post_val hb rfl rfl
              · refine Any.owes_plain rfl fun ρ wo hs' hb hc' => ?_
                have h34 : ρ (.tmp 34) = .map (some bm) := hs'.new' 34 3 (by kernel_rfl)
                have h36 : ρ (.tmp 36) = .string xn := hs'.new' 36 5 (by kernel_rfl)
                refine Mp.ok_lookup Tryz.underlying169 Tryz.underlying9 (zeroGd _) (h34.trans rfl) (h36.trans rfl) (HMP.out wo (below_undrew hb)) ?_
                rw [HGT.out]
                exact Any.post_val hb rfl rfl
              · refine Any.owes_plain rfl fun ρ wo hs' hb hc' => ?_
                have h37 : ρ (.tmp 37) = .tuple #[.agg #[.string ⟨#[]⟩, .int .i64 0, .int .i64 0, .int .i64 0], .bool false] := hs'.new' 37 6 (by kernel_rfl)
                exact Any.ok_move (Any.post_val hb rfl h37)
              · refine Any.owes_plain rfl fun ρ wo hs' hb hc' => ?_
                have h30 : ρ (.tmp 30) = .tuple #[.agg #[.string ⟨#[]⟩, .int .i64 0, .int .i64 0, .int .i64 0], .bool false] := hs'.new' 30 7 (by kernel_rfl)
                go_simp
                exact Any.post_val hb rfl rfl
              · refine Any.owes_plain rfl fun ρ wo hs' hb hc' => ?_
                have h30 : ρ (.tmp 30) = .tuple #[.agg #[.string ⟨#[]⟩, .int .i64 0, .int .i64 0, .int .i64 0], .bool false] := hs'.new' 30 7 (by kernel_rfl)
                go_simp
                exact Any.post_val hb rfl rfl
              · refine Any.owes_plain rfl fun ρ wo hs' hb hc' => ?_
                go_simp
                exact Any.post_new hb ⟨_, rfl, hb.size, heap_alloc_new _ _⟩ (one_below _ _) (by intro b hb'; obtain rfl : wo.heap.size = b := Option.some.inj hb'; exact Nat.le_refl _)
              · refine Any.owes_plain rfl fun ρ wo hs' hb hc' => ?_
                have h38 : ρ (.tmp 38) = .agg #[.string ⟨#[]⟩, .int .i64 0, .int .i64 0, .int .i64 0] := hs'.new' 38 8 (by kernel_rfl)
                obtain ⟨g, hg, hgB, hgb⟩ := hs'.new' 9 10 (by kernel_rfl)
                have c0 := cell_blk hgb 0
                have c1 := cell_blk hgb 1
                have c2 := cell_blk hgb 2
                have c3 := cell_blk hgb 3
                have f0 := free_blk hgb 0
                have f1 := free_blk hgb 1
                have f2 := free_blk hgb 2
                have f3 := free_blk hgb 3
                simp only [List.getElem?_toArray, List.getElem?_cons_zero, List.getElem?_cons_succ] at c0 c1 c2 c3
                go_simp
                exact Any.post_lost hb rfl rfl rfl hg hgB (grown_then (grown_then (grown_then (grown_set _ _ _ _) (grown_set _ _ _ _)) (grown_set _ _ _ _)) (grown_set _ _ _ _))
              · refine Any.owes_plain rfl fun ρ wo hs' hb hc' => ?_
                have h39 : ρ (.tmp 39) = .bool false := hs'.new' 39 9 (by kernel_rfl)
                exact Any.ok_assign (Any.post_val hb rfl h39)
            · intro vals w4 hb hk ha
              have h12 := hk 12 (by kernel_rfl)
              have hm4 := HMP.out _ hb
              have hx4 := HXC.out _ hb
              have ht4 := HTC.out _ hb
              have HB4 := Lib.hid (HB3.out.trans (hb.mono HB3.out.size))
              have HTB4 := Lib.hid (HTB.out _ hb)
              have HM4 := Lib.hid hm4
              clear hk ha hb hm4
              simp only [Any.putAll]
              go_frame
              simp only [Nat.zero_add, Nat.reduceAdd]
              rw [h12]
              obtain ⟨k0, k1, k2, k3⟩ := hx4
              go_wp2_with fail
              go_still_tail 7, (by kernel_rfl)
              change wpList _ _ _ _ _ w4.drew
              go_wp2_with (first
                | ((with_reducible refine Mp.wpl_update (b := bm) (l := gEnts (l.take k)) (key := xn) (v := .agg #[.string xn, .int .i64 xc, .int .i64 xw, .int .i64 xv]) ?_ ?_ ?_ ?_ Tryz.underlying169 Tryz.underlying9 (HM4.out.same rfl) ?_); rfl; rfl; rfl; rfl; intro w6 hm6 hg6 hz6; have HM6 := Lib.hid hm6; have HG6 := Lib.hid hg6; clear hm6 hg6 hz6)
                | fail)
              go_roundw
              case rel => exact ⟨k + 1, by omega, by go_num, HDN.out, ⟨(HG6.out.block _ (lt_blk HTB4.out) (fun e => HNE.out (Option.some.inj e).symm)).trans HTB4.out, by rw [HTE.out]; exact HM6.out⟩, (HB4.out.drew).grown HG6.out HB4.out.size (fun j hj => by obtain rfl : bm = j := Option.some.inj hj; exact HBM.out)⟩
              case measure => (simp [intOf]) <;> omega
          | some g =>
            obtain ⟨gn, gc, gw, gv⟩ := g
            have HGT : Hid (Mp.mget (gEnts (l.take k)) xn = some (.agg #[.string gn, .int .i64 gc, .int .i64 gw, .int .i64 gv])) := Lib.hid (by rw [HGG.out, hgo]; rfl)
            have HQ5 : Hid (tabC l = 5) := Lib.hid (by
              have h1 := HTC1.out
              have h2 := HRR.out
              have hm : xn ∈ codes (l.take k) := by
                rcases Classical.em (xn ∈ codes (l.take k)) with h | h
                · exact h
                · rw [HMM.out.2 h] at hgo; cases hgo
              rw [decide_eq_true hm, Bool.true_or] at h2
              rw [h1, if_pos]
              exact h2)
            clear hgo
            refine Any.region_lit (fun
              | 0 => Any.val (.pointer (some ⟨bt, 0, none⟩))
              | 1 => Any.val (.pointer (some ⟨bt, 0, none⟩))
              | 2 => Any.val (.pointer (some ⟨bt, 0, none⟩))
              | 3 => Any.val (.map (some bm))
              | 4 => Any.val (.pointer (some ⟨bx, 0, none⟩))
              | 5 => Any.val (.string xn)
              | 6 => Any.val (.tuple #[.agg #[.string gn, .int .i64 gc, .int .i64 gw, .int .i64 gv], .bool true])
              | 7 => Any.val (.tuple #[.agg #[.string gn, .int .i64 gc, .int .i64 gw, .int .i64 gv], .bool true])
              | 8 => Any.val (.agg #[.string gn, .int .i64 gc, .int .i64 gw, .int .i64 gv])
              | 9 => Any.val (.bool true)
              | 10 => Any.boxS w3.heap.size 84 #[.string ⟨#[]⟩, .int .i64 0, .int .i64 0, .int .i64 0]
              | 11 => ⟨fun _ _ => True, fun _ => none, [10]⟩
              | 12 => Any.val (.bool true)
              | _ => Any.idle) (by kernel_rfl) (by kernel_rfl) (by kernel_rfl) ?_ ?_ ?_
            · intro i _
              match i with
              | 0 => exact Any.lasts_val _
              | 1 => exact Any.lasts_val _
              | 2 => exact Any.lasts_val _
              | 3 => exact Any.lasts_val _
              | 4 => exact Any.lasts_val _
              | 5 => exact Any.lasts_val _
              | 6 => exact Any.lasts_val _
              | 7 => exact Any.lasts_val _
              | 8 => exact Any.lasts_val _
              | 9 => exact Any.lasts_val _
              | 10 => exact Any.lasts_box _ _ _
              | 11 => exact Any.lasts_lost _
              | 12 => exact Any.lasts_val _
              | n + 13 => exact Any.lasts_idle
            · refine ⟨?_, ?_, ?_, ?_, ?_, ?_, ?_, ?_, ?_, ?_, ?_, ?_, ?_, trivial⟩
              · refine Any.owes_plain rfl fun ρ wo hs' hb hc' => ?_
                have h6 : ρ (.tmp 6) = .pointer (some ⟨bt, 0, none⟩) := hs'.old' 6 (by kernel_rfl)
                exact Any.ok_move (Any.post_val hb rfl h6)
              · refine Any.owes_plain rfl fun ρ wo hs' hb hc' => ?_
                have h31 : ρ (.tmp 31) = .pointer (some ⟨bt, 0, none⟩) := hs'.new' 31 0 (by kernel_rfl)
                go_simp
                exact Any.post_val hb rfl rfl
              · refine Any.owes_plain rfl fun ρ wo hs' hb hc' => ?_
                have h32 : ρ (.tmp 32) = .pointer (some ⟨bt, 0, none⟩) := hs'.new' 32 1 (by kernel_rfl)
                go_simp
                exact Any.post_val hb rfl rfl
              · refine Any.owes_plain rfl fun ρ wo hs' hb hc' => ?_
                have h33 : ρ (.tmp 33) = .pointer (some ⟨bt, 0, none⟩) := hs'.new' 33 2 (by kernel_rfl)
                have c0 := (HTC.out wo (below_undrew hb))
                go_simp
                exact Any.post_val hb rfl rfl
              · refine Any.owes_plain rfl fun ρ wo hs' hb hc' => ?_
                have h8 : ρ (.tmp 8) = .pointer (some ⟨bx, 0, none⟩) := hs'.old' 8 (by kernel_rfl)
                go_simp
                exact Any.post_val hb rfl rfl
              · refine Any.owes_plain rfl fun ρ wo hs' hb hc' => ?_
                have h35 : ρ (.tmp 35) = .pointer (some ⟨bx, 0, none⟩) := hs'.new' 35 4 (by kernel_rfl)
                have c0 := (HKC.out wo (below_undrew hb))
                go_simp
                exact Any.post_val hb rfl rfl
              · refine Any.owes_plain rfl fun ρ wo hs' hb hc' => ?_
                have h34 : ρ (.tmp 34) = .map (some bm) := hs'.new' 34 3 (by kernel_rfl)
                have h36 : ρ (.tmp 36) = .string xn := hs'.new' 36 5 (by kernel_rfl)
                refine Mp.ok_lookup Tryz.underlying169 Tryz.underlying9 (zeroGd _) (h34.trans rfl) (h36.trans rfl) (HMP.out wo (below_undrew hb)) ?_
                rw [HGT.out]
                exact Any.post_val hb rfl rfl
              · refine Any.owes_plain rfl fun ρ wo hs' hb hc' => ?_
                have h37 : ρ (.tmp 37) = .tuple #[.agg #[.string gn, .int .i64 gc, .int .i64 gw, .int .i64 gv], .bool true] := hs'.new' 37 6 (by kernel_rfl)
                exact Any.ok_move (Any.post_val hb rfl h37)
              · refine Any.owes_plain rfl fun ρ wo hs' hb hc' => ?_
                have h30 : ρ (.tmp 30) = .tuple #[.agg #[.string gn, .int .i64 gc, .int .i64 gw, .int .i64 gv], .bool true] := hs'.new' 30 7 (by kernel_rfl)
                go_simp
                exact Any.post_val hb rfl rfl
              · refine Any.owes_plain rfl fun ρ wo hs' hb hc' => ?_
                have h30 : ρ (.tmp 30) = .tuple #[.agg #[.string gn, .int .i64 gc, .int .i64 gw, .int .i64 gv], .bool true] := hs'.new' 30 7 (by kernel_rfl)
                go_simp
                exact Any.post_val hb rfl rfl
              · refine Any.owes_plain rfl fun ρ wo hs' hb hc' => ?_
                go_simp
                exact Any.post_new hb ⟨_, rfl, hb.size, heap_alloc_new _ _⟩ (one_below _ _) (by intro b hb'; obtain rfl : wo.heap.size = b := Option.some.inj hb'; exact Nat.le_refl _)
              · refine Any.owes_plain rfl fun ρ wo hs' hb hc' => ?_
                have h38 : ρ (.tmp 38) = .agg #[.string gn, .int .i64 gc, .int .i64 gw, .int .i64 gv] := hs'.new' 38 8 (by kernel_rfl)
                obtain ⟨g, hg, hgB, hgb⟩ := hs'.new' 9 10 (by kernel_rfl)
                have c0 := cell_blk hgb 0
                have c1 := cell_blk hgb 1
                have c2 := cell_blk hgb 2
                have c3 := cell_blk hgb 3
                have f0 := free_blk hgb 0
                have f1 := free_blk hgb 1
                have f2 := free_blk hgb 2
                have f3 := free_blk hgb 3
                simp only [List.getElem?_toArray, List.getElem?_cons_zero, List.getElem?_cons_succ] at c0 c1 c2 c3
                go_simp
                exact Any.post_lost hb rfl rfl rfl hg hgB (grown_then (grown_then (grown_then (grown_set _ _ _ _) (grown_set _ _ _ _)) (grown_set _ _ _ _)) (grown_set _ _ _ _))
              · refine Any.owes_plain rfl fun ρ wo hs' hb hc' => ?_
                have h39 : ρ (.tmp 39) = .bool true := hs'.new' 39 9 (by kernel_rfl)
                exact Any.ok_assign (Any.post_val hb rfl h39)
            · intro vals w4 hb hk ha
              have h12 := hk 12 (by kernel_rfl)
              have HB4 := Lib.hid (HB3.out.trans (hb.mono HB3.out.size))
              clear hk ha hb
              simp only [Any.putAll]
              go_frame
              simp only [Nat.zero_add, Nat.reduceAdd]
              rw [h12]
              go_wp2_with fail
              go_ret2
              exact newG_err HQ5.out (by decide) HB4.out
        · have HE : Hid (tabC l = 0) := Lib.hid (by
            have h1 := HTC1.out
            rw [h1, if_neg]
            show ¬ dupG [] l = true
            rw [hrel, List.drop_of_length_le (by omega)]
            exact Bool.false_ne_true)
          have HT : Hid (Tab wr bt bm l) := Lib.hid (by have := htab; rwa [List.take_of_length_le (by omega)] at this)
          have tl : decide ((4096 : Int) < l.length) = false := decide_eq_false (by omega)
          clear hbel htab hrel
          go_wp2_with fail
          go_ret2
          exact ⟨HBEL.out, .inr ⟨HE.out, bt, bm, rfl, HT.out⟩⟩
end Go.Proofs.YtbigoifpfkdkjaaGreatDoor.Sc
