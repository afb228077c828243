/- Goods: the plain law; May of both, Find. Maps whose keys are structs: a map's block told as a row of keys and elements; looked up, and one entry more. No program in sight. -/
import Derived.Test.YtbigoifpfkdkjaaGreatDoorTd08
import Derived.Test.YtbigoifpfkdkjaaGreatDoorTd03
import Derived.Test.YtbigoifpfkdkjaaGreatDoorTd07
import Derived.Maps.Keyed
namespace Go.Proofs.YtbigoifpfkdkjaaGreatDoor.Sc
open Go Go.RowKit Go.ChangeShapes Go.WideShapes Go.ChangeAt
set_option maxRecDepth 100000

structure Gd where
  code : ByteArray
  cls : Int
  wt : Int
  vol : Int
def Gd.row (g : Gd) : List Value := [.string g.code, .int .i64 g.cls, .int .i64 g.wt, .int .i64 g.vol]
def Gd.val (g : Gd) : Value := .agg #[.string g.code, .int .i64 g.cls, .int .i64 g.wt, .int .i64 g.vol]
structure Gd.fit (g : Gd) : Prop where
  code : g.code.size ≤ maxLen
def cntOk (n : Int) : Bool := decide (1 ≤ n) && decide (n ≤ 1048576)
def gdOk (g : Gd) : Bool := nameOk g.code && (decide (0 ≤ g.cls) && (decide (g.cls < 10) && (cntOk g.wt && cntOk g.vol)))
theorem cnt_any (n : Int) (w : World) : Calls Tryz.prog 140 #[.int .i64 n] w (RetB w (cntOk n)) := by
  go_enter Tryz.func140, Tryz.ntmps140
  go_wp2
  all_goals
    go_ret
    exact retB (by rw [Bool.eq_iff_iff]; simp only [cntOk, Bool.and_eq_true, decide_eq_true_eq, Bool.false_eq_true, false_iff]; omega) (Below.refl _ _)
theorem gd_cells {w : World} {b : Nat} {x0 x1 x2 x3 : Value} {T : TypeId} (h : w.heap[b]? = some (.cells #[x0, x1, x2, x3] T (0, 0))) :
    w.cell? ⟨b, 0, none⟩ = some x0 ∧ w.cell? ⟨b, 1, none⟩ = some x1 ∧ w.cell? ⟨b, 2, none⟩ = some x2 ∧ w.cell? ⟨b, 3, none⟩ = some x3 := ⟨cell_blk h 0, cell_blk h 1, cell_blk h 2, cell_blk h 3⟩
set_option maxHeartbeats 4000000 in
theorem mayG_any (g : Gd) (w : World) (hf : g.fit) : Calls Tryz.prog 80 #[g.val] w (RetB w (gdOk g)) := by
  obtain ⟨n, c, wt, vo⟩ := g
  have HN := fun W => markName_any n W
  have HC1 := fun W => cnt_any wt W
  have HC2 := fun W => cnt_any vo W
  have HX0 := Lib.hid (heap_alloc_new w (.cells #[.string n, .int .i64 c, .int .i64 wt, .int .i64 vo] 84))
  obtain ⟨R, hR⟩ : ∃ R, R = gdOk ⟨n, c, wt, vo⟩ := ⟨_, rfl⟩
  rw [← hR]
  simp only [gdOk] at hR
  simp only [Gd.val]
  obtain ⟨b0, t0⟩ : ∃ b, nameOk n = b := ⟨_, rfl⟩
  rw [t0] at hR HN
  clear t0
  obtain ⟨b1, t1⟩ : ∃ b, decide (0 ≤ c) = b := ⟨_, rfl⟩
  rw [t1] at hR
  obtain ⟨b2, t2⟩ : ∃ b, decide (c < 10) = b := ⟨_, rfl⟩
  rw [t2] at hR
  obtain ⟨b3, t3⟩ : ∃ b, cntOk wt = b := ⟨_, rfl⟩
  rw [t3] at hR HC1
  clear t3
  obtain ⟨b4, t4⟩ : ∃ b, cntOk vo = b := ⟨_, rfl⟩
  rw [t4] at hR HC2
  clear t4
  have HR := Lib.hid hR
  clear hf hR
  cases b0
  · skip
    go_enter Tryz.func80, Tryz.ntmps80
    go_wp2_with (first
      | ((with_reducible refine (HN _).mono ?_); rintro e w1 ⟨rfl, hb1⟩; have HB := Lib.hid (below_then (one_below _ _) hb1); have HX := Lib.hid (blk hb1 (lt_blk HX0.out) HX0.out); obtain ⟨x0, x1, x2, x3⟩ := gd_cells HX.out; clear hb1)
      | ((with_reducible refine (HC1 _).mono ?_); rintro e w2 ⟨rfl, hb2⟩; have HX := Lib.hid (blk hb2 (lt_blk HX.out) HX.out); have HB := Lib.hid (HB.out.trans (hb2.mono HB.out.size)); obtain ⟨x0, x1, x2, x3⟩ := gd_cells HX.out; clear hb2)
      | ((with_reducible refine (HC2 _).mono ?_); rintro e w3 ⟨rfl, hb3⟩; have HX := Lib.hid (blk hb3 (lt_blk HX.out) HX.out); have HB := Lib.hid (HB.out.trans (hb3.mono HB.out.size)); obtain ⟨x0, x1, x2, x3⟩ := gd_cells HX.out; clear hb3)
      | fail)
    go_ret
    exact retB (by rw [HR.out]; rfl) HB.out
  · skip
    cases b1
    · skip
      go_enter Tryz.func80, Tryz.ntmps80
      go_wp2_with (first
        | ((with_reducible refine (HN _).mono ?_); rintro e w1 ⟨rfl, hb1⟩; have HB := Lib.hid (below_then (one_below _ _) hb1); have HX := Lib.hid (blk hb1 (lt_blk HX0.out) HX0.out); obtain ⟨x0, x1, x2, x3⟩ := gd_cells HX.out; clear hb1)
        | ((with_reducible refine (HC1 _).mono ?_); rintro e w2 ⟨rfl, hb2⟩; have HX := Lib.hid (blk hb2 (lt_blk HX.out) HX.out); have HB := Lib.hid (HB.out.trans (hb2.mono HB.out.size)); obtain ⟨x0, x1, x2, x3⟩ := gd_cells HX.out; clear hb2)
        | ((with_reducible refine (HC2 _).mono ?_); rintro e w3 ⟨rfl, hb3⟩; have HX := Lib.hid (blk hb3 (lt_blk HX.out) HX.out); have HB := Lib.hid (HB.out.trans (hb3.mono HB.out.size)); obtain ⟨x0, x1, x2, x3⟩ := gd_cells HX.out; clear hb3)
        | fail)
      go_ret
      exact retB (by rw [HR.out]; rfl) HB.out
    · skip
      cases b2
      · skip
        go_enter Tryz.func80, Tryz.ntmps80
        go_wp2_with (first
          | ((with_reducible refine (HN _).mono ?_); rintro e w1 ⟨rfl, hb1⟩; have HB := Lib.hid (below_then (one_below _ _) hb1); have HX := Lib.hid (blk hb1 (lt_blk HX0.out) HX0.out); obtain ⟨x0, x1, x2, x3⟩ := gd_cells HX.out; clear hb1)
          | ((with_reducible refine (HC1 _).mono ?_); rintro e w2 ⟨rfl, hb2⟩; have HX := Lib.hid (blk hb2 (lt_blk HX.out) HX.out); have HB := Lib.hid (HB.out.trans (hb2.mono HB.out.size)); obtain ⟨x0, x1, x2, x3⟩ := gd_cells HX.out; clear hb2)
          | ((with_reducible refine (HC2 _).mono ?_); rintro e w3 ⟨rfl, hb3⟩; have HX := Lib.hid (blk hb3 (lt_blk HX.out) HX.out); have HB := Lib.hid (HB.out.trans (hb3.mono HB.out.size)); obtain ⟨x0, x1, x2, x3⟩ := gd_cells HX.out; clear hb3)
          | fail)
        go_ret
        exact retB (by rw [HR.out]; rfl) HB.out
      · skip
        cases b3
        · skip
          go_enter Tryz.func80, Tryz.ntmps80
          go_wp2_with (first
            | ((with_reducible refine (HN _).mono ?_); rintro e w1 ⟨rfl, hb1⟩; have HB := Lib.hid (below_then (one_below _ _) hb1); have HX := Lib.hid (blk hb1 (lt_blk HX0.out) HX0.out); obtain ⟨x0, x1, x2, x3⟩ := gd_cells HX.out; clear hb1)
            | ((with_reducible refine (HC1 _).mono ?_); rintro e w2 ⟨rfl, hb2⟩; have HX := Lib.hid (blk hb2 (lt_blk HX.out) HX.out); have HB := Lib.hid (HB.out.trans (hb2.mono HB.out.size)); obtain ⟨x0, x1, x2, x3⟩ := gd_cells HX.out; clear hb2)
            | ((with_reducible refine (HC2 _).mono ?_); rintro e w3 ⟨rfl, hb3⟩; have HX := Lib.hid (blk hb3 (lt_blk HX.out) HX.out); have HB := Lib.hid (HB.out.trans (hb3.mono HB.out.size)); obtain ⟨x0, x1, x2, x3⟩ := gd_cells HX.out; clear hb3)
            | fail)
          go_ret
          exact retB (by rw [HR.out]; rfl) HB.out
        · skip
          cases b4
          · skip
            go_enter Tryz.func80, Tryz.ntmps80
            go_wp2_with (first
              | ((with_reducible refine (HN _).mono ?_); rintro e w1 ⟨rfl, hb1⟩; have HB := Lib.hid (below_then (one_below _ _) hb1); have HX := Lib.hid (blk hb1 (lt_blk HX0.out) HX0.out); obtain ⟨x0, x1, x2, x3⟩ := gd_cells HX.out; clear hb1)
              | ((with_reducible refine (HC1 _).mono ?_); rintro e w2 ⟨rfl, hb2⟩; have HX := Lib.hid (blk hb2 (lt_blk HX.out) HX.out); have HB := Lib.hid (HB.out.trans (hb2.mono HB.out.size)); obtain ⟨x0, x1, x2, x3⟩ := gd_cells HX.out; clear hb2)
              | ((with_reducible refine (HC2 _).mono ?_); rintro e w3 ⟨rfl, hb3⟩; have HX := Lib.hid (blk hb3 (lt_blk HX.out) HX.out); have HB := Lib.hid (HB.out.trans (hb3.mono HB.out.size)); obtain ⟨x0, x1, x2, x3⟩ := gd_cells HX.out; clear hb3)
              | fail)
            go_ret
            exact retB (by rw [HR.out]; rfl) HB.out
          · skip
            go_enter Tryz.func80, Tryz.ntmps80
            go_wp2_with (first
              | ((with_reducible refine (HN _).mono ?_); rintro e w1 ⟨rfl, hb1⟩; have HB := Lib.hid (below_then (one_below _ _) hb1); have HX := Lib.hid (blk hb1 (lt_blk HX0.out) HX0.out); obtain ⟨x0, x1, x2, x3⟩ := gd_cells HX.out; clear hb1)
              | ((with_reducible refine (HC1 _).mono ?_); rintro e w2 ⟨rfl, hb2⟩; have HX := Lib.hid (blk hb2 (lt_blk HX.out) HX.out); have HB := Lib.hid (HB.out.trans (hb2.mono HB.out.size)); obtain ⟨x0, x1, x2, x3⟩ := gd_cells HX.out; clear hb2)
              | ((with_reducible refine (HC2 _).mono ?_); rintro e w3 ⟨rfl, hb3⟩; have HX := Lib.hid (blk hb3 (lt_blk HX.out) HX.out); have HB := Lib.hid (HB.out.trans (hb3.mono HB.out.size)); obtain ⟨x0, x1, x2, x3⟩ := gd_cells HX.out; clear hb3)
              | fail)
            go_ret
            exact retB (by rw [HR.out]; rfl) HB.out
/-- Where a good stands; -1: nowhere. -/
def gFind (n : ByteArray) : Nat → List Gd → Int
  | _, [] => -1
  | k, g :: l => if g.code = n then k else gFind n (k + 1) l
def gOf (l : List Gd) (n : ByteArray) : Option Gd := l.find? fun g => decide (g.code = n)
theorem gFind_of (n : ByteArray) : ∀ (l : List Gd) (k : Nat), (gFind n k l = -1 ∧ gOf l n = none) ∨ ∃ j, ∃ h : j < l.length, gFind n k l = ((k + j : Nat) : Int) ∧ gOf l n = some l[j]
  | [], k => .inl ⟨rfl, rfl⟩
  | g :: l, k => by
    by_cases h : g.code = n
    · exact .inr ⟨0, by simp, by simp [gFind, h], by rw [gOf, List.find?_cons_of_pos (by simpa using h)]; rfl⟩
    · rw [gFind, if_neg h, gOf, List.find?_cons_of_neg (by simpa using h)]
      rcases gFind_of n l (k + 1) with h1 | ⟨j, hj, h1, h2⟩
      · exact .inl h1
      · exact .inr ⟨j + 1, by simp; omega, by rw [h1]; congr 1; omega, by rw [← gOf, h2]; rfl⟩
end Go.Proofs.YtbigoifpfkdkjaaGreatDoor.Sc
namespace Go.Proofs.YtbigoifpfkdkjaaGreatDoor.Km
open Go Go.RowKit
set_option maxRecDepth 100000

section
variable {α : Type}
def kget [DecidableEq α] : List (α × Value) → α → Option Value
  | [], _ => none
  | p :: r, a => if a = p.1 then some p.2 else kget r a
theorem kget_append [DecidableEq α] (l : List (α × Value)) (a b : α) (v : Value) : kget (l ++ [(b, v)]) a = match kget l a with | some u => some u | none => if a = b then some v else none := by
  induction l with
  | nil => simp [kget]
  | cons p r ih =>
    simp only [List.cons_append, kget]
    split
    · rfl
    · exact ih
def Likes (enc : α → Value) : List MapEntry → List (α × Value) → Prop
  | [], [] => True
  | e :: es, p :: l => (e.key = enc p.1 ∧ e.val = p.2) ∧ Likes enc es l
  | _, _ => False
variable {enc : α → Value}
theorem Likes.snoc : ∀ {es : List MapEntry} {l : List (α × Value)} {e : MapEntry} {p : α × Value}, Likes enc es l → e.key = enc p.1 → e.val = p.2 → Likes enc (es ++ [e]) (l ++ [p])
  | [], [], _, _, _, h1, h2 => ⟨⟨h1, h2⟩, trivial⟩
  | _ :: _, _ :: _, _, _, h, h1, h2 => ⟨h.1, Likes.snoc h.2 h1 h2⟩
/-- Block b is a map of just these entries; its keys are keys. -/
def KMapAt (P : Program) (k : TypeId) (enc : α → Value) (w : World) (b : Nat) (l : List (α × Value)) : Prop :=
  ∃ es clock, w.heap[b]? = some (.map es clock) ∧ Likes enc es.toList l ∧ ∀ e ∈ es.toList, ∃ x, keyOf P k e.key = some x
theorem KMapAt.lt {P : Program} {k : TypeId} {w : World} {b : Nat} {l : List (α × Value)} (h : KMapAt P k enc w b l) : b < w.heap.size := by
  obtain ⟨es, clock, hb, _⟩ := h
  exact (Array.getElem?_eq_some_iff.1 hb).1
theorem KMapAt.same {P : Program} {k : TypeId} {w w' : World} {b : Nat} {l : List (α × Value)} (h : KMapAt P k enc w b l) (he : w'.heap[b]? = w.heap[b]?) : KMapAt P k enc w' b l := by
  obtain ⟨es, clock, hb, r⟩ := h
  exact ⟨es, clock, he.trans hb, r⟩
theorem KMapAt.made (P : Program) (k : TypeId) (w : World) : KMapAt P k enc (w.alloc (.map #[] 0)) w.heap.size [] := ⟨#[], 0, heap_alloc_new w _, trivial, by simp⟩

end
section
variable {α : Type} [DecidableEq α] {enc : α → Value} {P : Program} {w : World} {t k e : TypeId}
theorem mem_get {es : List MapEntry} {l : List (α × Value)} (hnd : (l.map Prod.fst).Nodup) (inj : ∀ a b, enc a = enc b → a = b) (h : Likes enc es l) {j : Nat} {x : MapEntry} {a : α} (hj : es[j]? = some x) (hx : x.key = enc a) : kget l a = some x.val := by
  induction es generalizing l j with
  | nil => simp at hj
  | cons y es ih =>
    cases l with
    | nil => exact h.elim
    | cons p l =>
      simp only [List.map_cons, List.nodup_cons] at hnd
      cases j with
      | zero =>
        simp only [List.getElem?_cons_zero, Option.some.injEq] at hj
        subst hj
        have : a = p.1 := inj _ _ (hx.symm.trans h.1.1)
        simp [kget, this, h.1.2]
      | succ j =>
        have h1 := ih hnd.2 h.2 (by simpa using hj)
        have hne : ¬ a = p.1 := by
          rintro rfl
          have : ∀ {l : List (α × Value)} {v : Value}, kget l p.1 = some v → p.1 ∈ l.map Prod.fst := by
            intro l
            induction l with
            | nil => intro v hv; simp [kget] at hv
            | cons q l ih =>
              intro v hv
              by_cases hq : p.1 = q.1
              · simp [hq]
              · simp only [kget, hq, if_false] at hv
                exact List.mem_cons_of_mem _ (ih hv)
          exact hnd.1 (this h1)
        simp only [kget, hne, if_false]
        exact h1
theorem kget_none {l : List (α × Value)} {a : α} (h : kget l a = none) : a ∉ l.map Prod.fst := by
  induction l with
  | nil => simp
  | cons p r ih =>
    simp only [kget] at h
    split at h
    · cases h
    · rename_i hp
      simp only [List.map_cons, List.mem_cons, not_or]
      exact ⟨hp, ih h⟩
/-- What the search tells. -/
theorem run_find (K : Maps.Keyed P k) (inj : ∀ a b, enc a = enc b → a = b) {es : Array MapEntry} {l : List (α × Value)} (h : Likes enc es.toList l) (hk : ∀ e ∈ es.toList, ∃ x, keyOf P k e.key = some x) (hnd : (l.map Prod.fst).Nodup) {a : α} {x : Lit} (ha : keyOf P k (enc a) = some x) :
    (kget l a = none ∧ (Instr.findKey k (enc a) es.toList).run P w = .ok none w) ∨ ∃ j v, kget l a = some v ∧ (Instr.findKey k (enc a) es.toList).run P w = .ok (some (j, v)) w := by
  rcases K.find w ha es.toList hk with ⟨h1, h2⟩ | ⟨j, y, h1, h2, h3⟩
  · cases hg : kget l a with
    | none => exact .inl ⟨rfl, h1⟩
    | some v =>
      exfalso
      clear hk hnd
      generalize es.toList = es at *
      clear h1
      induction l generalizing es with
      | nil => simp [kget] at hg
      | cons p l ih =>
        cases es with
        | nil => exact h
        | cons y es =>
          by_cases hp : a = p.1
          · exact h2 y (by simp) (by rw [h.1.1, hp])
          · simp only [kget, hp, if_false] at hg
            exact ih hg es h.2 (fun e he => h2 e (by simp [he]))
  · exact .inr ⟨j, y.val, mem_get hnd inj h h2 h3, h1⟩
theorem run_lookup (ht : P.underlying t = some (.map k e)) (K : Maps.Keyed P k) (inj : ∀ a b, enc a = enc b → a = b) {z : Value} (hz : (zeroValue e).run P w = .ok z w) {b : Nat} {l : List (α × Value)} (h : KMapAt P k enc w b l) (hnd : (l.map Prod.fst).Nodup) {a : α} {x : Lit} (ha : keyOf P k (enc a) = some x) (c : Bool) :
    (Instr.lookup t (.map (some b)) (enc a) c).run P w = .ok (Mp.look c (kget l a) z) w := by
  obtain ⟨es, clock, hb, hl, hk⟩ := h
  have hce := K.check w es.isEmpty ha
  rcases run_find (w := w) K inj hl hk hnd ha with ⟨h1, h2⟩ | ⟨j, v, h1, h2⟩
  · simp [Instr.lookup, run_underlying ht, MapKept.run_getObj_map hb, hce, h2, hz, h1]
    cases c <;> rfl
  · simp [Instr.lookup, run_underlying ht, MapKept.run_getObj_map hb, hce, h2, h1]
    cases c <;> rfl
theorem run_update_new (ht : P.underlying t = some (.map k e)) (K : Maps.Keyed P k) (inj : ∀ a b, enc a = enc b → a = b) {b : Nat} {l : List (α × Value)} (h : KMapAt P k enc w b l) (hnd : (l.map Prod.fst).Nodup) {a : α} {x : Lit} (ha : keyOf P k (enc a) = some x) (hg : kget l a = none) (v : Value) :
    ∃ w', (Instr.mapUpdate t (.map (some b)) (enc a) v).run P w = .ok () w' ∧ KMapAt P k enc w' b (l ++ [(a, v)]) ∧ w.grownBy w' (some b) ∧ w'.heap.size = w.heap.size := by
  obtain ⟨es, clock, hb, hl, hk⟩ := h
  have hc2 := K.check w false ha
  rcases run_find (w := w) K inj hl hk hnd ha with ⟨h1, h2⟩ | ⟨j, v', h1, h2⟩
  · refine ⟨ChangeMaps.setBlock w b (.map (es.push ⟨enc a, v, clock⟩) (clock + 1)), ?_, ⟨_, _, ChangeMaps.heap_setBlock_same hb _, ?_, ?_⟩, ⟨rfl, rfl, rfl, by simp [ChangeMaps.setBlock], fun i _ hi => ChangeMaps.heap_setBlock_other hb _ (fun e => hi (by rw [e]))⟩, by simp [ChangeMaps.setBlock]⟩
    · simp [Instr.mapUpdate, run_underlying ht, MapKept.run_getObj_map hb, hc2, h2, MapKept.run_setObj_map _ hb, Result.andThen, ChangeMaps.setBlock]
    · rw [Array.toList_push]; exact hl.snoc rfl rfl
    · intro e he
      rw [Array.toList_push, List.mem_append] at he
      rcases he with he | he
      · exact hk e he
      · simp only [List.mem_singleton] at he
        subst he
        exact ⟨x, ha⟩
  · rw [hg] at h1; cases h1
end
section
variable {α : Type} [DecidableEq α] {enc : α → Value} {P : Program} {ops : Array Oper} {Q : Exit → Act → World → Prop} {dst : Option Tmp} {t k e ty : TypeId} {pos : String} {after : Array Edge} {gd : Option (Nat × Bool)} {ρ : Operand → Value} {w : World} {R : Value → World → Prop}
theorem ok_lookup {m x : Operand} {c : Bool} {z : Value} {b : Nat} {l : List (α × Value)} {a : α} {y : Lit} (ht : P.underlying t = some (.map k e)) (K : Maps.Keyed P k) (inj : ∀ a b, enc a = enc b → a = b) (hz : (zeroValue e).run P w = .ok z w)
    (hm : ρ m = .map (some b)) (hx : ρ x = enc a) (h : KMapAt P k enc w b l) (hnd : (l.map Prod.fst).Nodup) (ha : keyOf P k (enc a) = some y) (hR : R (Mp.look c (kget l a) z) w) : Any.OpOk P ⟨dst, .lookup t m x c, ty, pos, after, gd⟩ ρ w R := by
  have hr := run_lookup ht K inj hz h hnd ha c
  unfold Any.OpOk
  simp [execOp, hm, hx, hr, Result.andThen]
  exact hR
theorem ok_update {m x y : Operand} {b : Nat} {l : List (α × Value)} {a : α} {u : Lit} {v : Value} (ht : P.underlying t = some (.map k e)) (K : Maps.Keyed P k) (inj : ∀ a b, enc a = enc b → a = b)
    (hm : ρ m = .map (some b)) (hx : ρ x = enc a) (hy : ρ y = v) (h : KMapAt P k enc w b l) (hnd : (l.map Prod.fst).Nodup) (ha : keyOf P k (enc a) = some u) (hg : kget l a = none)
    (hR : ∀ w', KMapAt P k enc w' b (l ++ [(a, v)]) → w.grownBy w' (some b) → w'.heap.size = w.heap.size → R undef w') : Any.OpOk P ⟨dst, .mapUpdate t m x y, ty, pos, after, gd⟩ ρ w R := by
  obtain ⟨w', hr, h1, h2, h3⟩ := run_update_new ht K inj h hnd ha hg v
  unfold Any.OpOk
  simp [execOp, hm, hx, hy, hr, Result.andThen]
  exact hR w' h1 h2 h3
variable {a : Act} {rest : List Oper}
theorem wpl_lookup {m x : Operand} {c : Bool} {z : Value} {b : Nat} {l : List (α × Value)} {key : α} {y : Lit} (hw : Region.wanted ⟨dst, .lookup t m x c, ty, pos, after, gd⟩ (yielded ops a.tmps) = true)
    (hm : a.eval m = .map (some b)) (hx : a.eval x = enc key) (ht : P.underlying t = some (.map k e)) (K : Maps.Keyed P k) (inj : ∀ a b, enc a = enc b → a = b) (hz : (zeroValue e).run P w = .ok z w)
    (h : KMapAt P k enc w b l) (hnd : (l.map Prod.fst).Nodup) (ha : keyOf P k (enc key) = some y) (hR : wpList P ops Q rest (a.put dst (Mp.look c (kget l key) z)) w) : wpList P ops Q (⟨dst, .lookup t m x c, ty, pos, after, gd⟩ :: rest) a w :=
  Any.wpl hw (ok_lookup ht K inj hz hm hx h hnd ha hR)
theorem wpl_update {m x y : Operand} {b : Nat} {l : List (α × Value)} {key : α} {u : Lit} {v : Value} (hw : Region.wanted ⟨dst, .mapUpdate t m x y, ty, pos, after, gd⟩ (yielded ops a.tmps) = true)
    (hm : a.eval m = .map (some b)) (hx : a.eval x = enc key) (hy : a.eval y = v) (ht : P.underlying t = some (.map k e)) (K : Maps.Keyed P k) (inj : ∀ a b, enc a = enc b → a = b)
    (h : KMapAt P k enc w b l) (hnd : (l.map Prod.fst).Nodup) (ha : keyOf P k (enc key) = some u) (hg : kget l key = none) (hR : ∀ w', KMapAt P k enc w' b (l ++ [(key, v)]) → w.grownBy w' (some b) → w'.heap.size = w.heap.size → wpList P ops Q rest (a.put dst undef) w') : wpList P ops Q (⟨dst, .mapUpdate t m x y, ty, pos, after, gd⟩ :: rest) a w :=
  Any.wpl hw (ok_update ht K inj hm hx hy h hnd ha hg hR)
end
end Go.Proofs.YtbigoifpfkdkjaaGreatDoor.Km
namespace Go.Proofs.YtbigoifpfkdkjaaGreatDoor.Any
open Go Go.RowKit
variable {P : Program} {ops : Array Oper} {S : Nat → Spec} {w0 : World} {a0 : Act}
/-- A new box: its block's cells. -/
def ptrBlock : Value → Option Nat
  | .pointer (some a) => some a.block
  | _ => none
def boxS (B : Nat) (T : TypeId) (cs : Array Value) : Spec := ⟨fun v w => ∃ b, v = .pointer (some ⟨b, 0, none⟩) ∧ B ≤ b ∧ w.heap[b]? = some (.cells cs T (0, 0)), ptrBlock, []⟩
theorem lasts_box (B : Nat) (T : TypeId) (cs : Array Value) : Lasts (boxS B T cs) w0 :=
  ⟨fun v w h b hb => by
    obtain ⟨g, rfl, -, hg⟩ := h
    obtain rfl : g = b := Option.some.inj hb
    exact (Array.getElem?_eq_some_iff.1 hg).1,
   fun v w w' h _ _ _ hk => by
    obtain ⟨g, rfl, hB, hg⟩ := h
    exact ⟨g, rfl, hB, (hk g rfl).trans hg⟩⟩
/-- What a store owes into a box of the region's own, that nobody asks for again. -/
theorem post_lost {i j B : Nat} {t : Tmp} {T : TypeId} {cs : Array Value} {ρ : Operand → Value} {w w' : World} {v : Value} {b : Nat} (hw : Below w0.heap.size w0 w) (hS : S i = ⟨fun _ _ => True, fun _ => none, [j]⟩) (hSj : S j = boxS B T cs) (hd : (ops[j]?).bind (·.dst) = some t) (hv : ρ (.tmp t) = .pointer (some ⟨b, 0, none⟩)) (hb : w0.heap.size ≤ b)
    (hg : w.grownBy w' (some b)) : Post ops S w0 i ρ w v w' := by
  refine ⟨by rw [hS]; trivial, hw.grown hg hw.size (fun k hk => by obtain rfl : b = k := Option.some.inj hk; exact hb), hg.size, fun k hlt hne => hg.block k hlt (fun e => ?_), fun k hk => by rw [hS] at hk; cases hk⟩
  obtain rfl : b = k := (Option.some.inj e).symm
  refine hne j (by rw [hS]; exact List.mem_singleton.2 rfl) t hd ?_
  rw [hSj, hv]
  rfl
theorem lasts_lost (j : Nat) : Lasts (⟨fun _ _ => True, fun _ => none, [j]⟩ : Spec) w0 := ⟨(fun _ _ _ _ h => by cases h), fun _ _ _ _ _ _ _ _ => trivial⟩
end Go.Proofs.YtbigoifpfkdkjaaGreatDoor.Any
