/- Goods: the plain law; May of both, Find. few, Few. How many pieces of each good there are: the program's map. Lots sorted by their goods: the library's SortFunc with the program's closure. -/
import Derived.Test.YtnbhneeohkfocaaDoorTo10
import Derived.Test.YtnbhneeohkfocaaDoorTo03
import Derived.Test.YtnbhneeohkfocaaDoorTo06
import Derived.Test.YtnbhneeohkfocaaDoorTo07
import Derived.OwnWalk
import Derived.Shelf.SlSortCmp.NoneTotal
namespace Go.Proofs.YtnbhneeohkfocaaDoor.Sc
open Go Go.RowKit Go.ChangeShapes Go.WideShapes Go.ChangeAt
set_option maxRecDepth 100000

structure Gd where
  code : ByteArray
  cls : Int
  wt : Int
  vol : Int
def Gd.row (g : Gd) : List Value := [.string g.code, .int .i64 g.cls, .int .i64 g.wt, .int .i64 g.vol]
def Gd.val (g : Gd) : Value := .agg #[.string g.code, .int .i64 g.cls, .int .i64 g.wt, .int .i64 g.vol]
structure Gd.fit (g : Gd) : Prop where
  code : g.code.size ≤ maxLen
def cntOk (n : Int) : Bool := decide (1 ≤ n) && decide (n ≤ 1048576)
def gdOk (g : Gd) : Bool := nameOk g.code && (decide (0 ≤ g.cls) && (decide (g.cls < 10) && (cntOk g.wt && cntOk g.vol)))
theorem gd_cells {w : World} {b : Nat} {x0 x1 x2 x3 : Value} {T : TypeId} (h : w.heap[b]? = some (.cells #[x0, x1, x2, x3] T (0, 0))) :
    w.cell? ⟨b, 0, none⟩ = some x0 ∧ w.cell? ⟨b, 1, none⟩ = some x1 ∧ w.cell? ⟨b, 2, none⟩ = some x2 ∧ w.cell? ⟨b, 3, none⟩ = some x3 := ⟨cell_blk h 0, cell_blk h 1, cell_blk h 2, cell_blk h 3⟩
/-- Where a good stands; -1: nowhere. -/
def gFind (n : ByteArray) : Nat → List Gd → Int
  | _, [] => -1
  | k, g :: l => if g.code = n then k else gFind n (k + 1) l
def gOf (l : List Gd) (n : ByteArray) : Option Gd := l.find? fun g => decide (g.code = n)
theorem gFind_of (n : ByteArray) : ∀ (l : List Gd) (k : Nat), (gFind n k l = -1 ∧ gOf l n = none) ∨ ∃ j, ∃ h : j < l.length, gFind n k l = ((k + j : Nat) : Int) ∧ gOf l n = some l[j]
  | [], k => .inl ⟨rfl, rfl⟩
  | g :: l, k => by
    by_cases h : g.code = n
    · exact .inr ⟨0, by simp, by simp [gFind, h], by rw [gOf, List.find?_cons_of_pos (by simpa using h)]; rfl⟩
    · rw [gFind, if_neg h, gOf, List.find?_cons_of_neg (by simpa using h)]
      rcases gFind_of n l (k + 1) with h1 | ⟨j, hj, h1, h2⟩
      · exact .inl h1
      · exact .inr ⟨j + 1, by simp; omega, by rw [h1]; congr 1; omega, by rw [← gOf, h2]; rfl⟩
end Go.Proofs.YtnbhneeohkfocaaDoor.Sc
namespace Go.Proofs.YtnbhneeohkfocaaDoor.Sc
open Go Go.RowKit
set_option maxRecDepth 100000

structure Lt where
  good : ByteArray
  cnt : Int
def Lt.row (x : Lt) : List Value := [.string x.good, .int .i64 x.cnt]
/-- How many pieces there are of a good. -/
def posTot : List Lt → ByteArray → Int
  | [], _ => 0
  | x :: r, n => (if x.good = n ∧ 0 < x.cnt then x.cnt else 0) + posTot r n
theorem posTot_append (l m : List Lt) (n : ByteArray) : posTot (l ++ m) n = posTot l n + posTot m n := by
  induction l with
  | nil => simp [posTot]
  | cons x r ih => simp only [List.cons_append, posTot, ih]; omega
theorem posTot_nonneg (l : List Lt) (n : ByteArray) : 0 ≤ posTot l n := by
  induction l with
  | nil => simp [posTot]
  | cons x r ih =>
    simp only [posTot]
    split <;> omega
theorem posTot_pos {l : List Lt} {n : ByteArray} : 0 < posTot l n ↔ ∃ x ∈ l, x.good = n ∧ 0 < x.cnt := by
  induction l with
  | nil => simp [posTot]
  | cons x r ih =>
    have h0 := posTot_nonneg r n
    simp only [posTot, List.mem_cons, exists_eq_or_imp]
    by_cases h : x.good = n ∧ 0 < x.cnt
    · rw [if_pos h]
      exact ⟨fun _ => .inl h, fun _ => by omega⟩
    · rw [if_neg h, Int.zero_add, ih]
      exact ⟨.inr, fun h1 => h1.elim (fun h2 => absurd h2 h) id⟩
/-- Lots in order, each good once, none of nothing. -/
structure Norm (L : List Lt) : Prop where
  up : L.Pairwise fun a b => bt a.good < bt b.good
  pos : ∀ x ∈ L, 0 < x.cnt
theorem norm_goods {L : List Lt} (h : Norm L) : (L.map Lt.good).Nodup := by
  rw [List.Nodup, List.pairwise_map]
  exact h.up.imp fun {a b} hab e => by rw [e] at hab; exact List.lt_irrefl _ hab
theorem posTot_of {L : List Lt} (h : Norm L) {x : Lt} (hx : x ∈ L) : posTot L x.good = x.cnt := by
  induction L with
  | nil => simp at hx
  | cons y r ih =>
    have hr : Norm r := ⟨(List.pairwise_cons.1 h.up).2, fun x hx => h.pos x (List.mem_cons_of_mem _ hx)⟩
    have hn := norm_goods h
    simp only [List.map_cons, List.nodup_cons] at hn
    rcases List.mem_cons.1 hx with rfl | hx'
    · have h0 : posTot r x.good = 0 := by
        have h1 := posTot_nonneg r x.good
        rcases Int.lt_or_le 0 (posTot r x.good) with h2 | h2
        · obtain ⟨z, hz, hzg, -⟩ := posTot_pos.1 h2
          exact absurd (List.mem_map.2 ⟨z, hz, hzg⟩) hn.1
        · omega
      rw [posTot, if_pos ⟨rfl, h.pos x List.mem_cons_self⟩, h0, Int.add_zero]
    · have hne : ¬ y.good = x.good := fun e => hn.1 (List.mem_map.2 ⟨x, hx', e.symm⟩)
      rw [posTot, if_neg (fun h => hne h.1), Int.zero_add]
      exact ih hr hx'
theorem mem_norm {L : List Lt} (h : Norm L) {x : Lt} : x ∈ L ↔ 0 < x.cnt ∧ posTot L x.good = x.cnt := by
  constructor
  · exact fun hx => ⟨h.pos x hx, posTot_of h hx⟩
  · rintro ⟨h1, h2⟩
    obtain ⟨z, hz, hzg, -⟩ := posTot_pos.1 (show 0 < posTot L x.good by omega)
    have h3 := posTot_of h hz
    rw [hzg, h2] at h3
    obtain ⟨zg, zc⟩ := z
    obtain ⟨xg, xc⟩ := x
    simp only at hzg h3
    rw [← hzg, h3]
    exact hz
/-- Two rows in order that count alike are one. -/
theorem norm_ext {L M : List Lt} (h1 : Norm L) (h2 : Norm M) (h : ∀ n, posTot L n = posTot M n) : L = M := by
  have hp : L.Perm M := by
    rw [List.perm_ext_iff_of_nodup]
    · intro x
      rw [mem_norm h1, mem_norm h2, h]
    · exact h1.up.imp fun {a b} hab e => by rw [e] at hab; exact List.lt_irrefl _ hab
    · exact h2.up.imp fun {a b} hab e => by rw [e] at hab; exact List.lt_irrefl _ hab
  exact List.Perm.eq_of_pairwise (le := fun a b => bt a.good < bt b.good) (fun a b _ _ h3 h4 => absurd (List.lt_trans h3 h4) (List.lt_irrefl _)) h1.up h2.up hp
/-- One lot more, by the document. -/
def jIns : List Lt → Lt → List Lt
  | [], x => [x]
  | y :: r, x => if bt y.good < bt x.good then y :: jIns r x else if y.good = x.good then ⟨y.good, y.cnt + x.cnt⟩ :: r else x :: y :: r
def joinL (l : List Lt) : List Lt := l.foldl (fun out x => if x.cnt < 1 then out else jIns out x) []
theorem jIns_tot (L : List Lt) (x : Lt) (hx : 0 < x.cnt) (hp : ∀ y ∈ L, 0 < y.cnt) (n : ByteArray) : posTot (jIns L x) n = posTot L n + if x.good = n then x.cnt else 0 := by
  induction L with
  | nil => simp [jIns, posTot, hx]
  | cons y r ih =>
    have hy := hp y List.mem_cons_self
    have hr : ∀ z ∈ r, 0 < z.cnt := fun z hz => hp z (List.mem_cons_of_mem _ hz)
    unfold jIns
    split
    · simp only [posTot, ih hr]; omega
    · split
      · rename_i h
        simp only [posTot, h]
        by_cases hn : x.good = n
        · rw [if_pos ⟨hn, by omega⟩, if_pos ⟨hn, hy⟩, if_pos hn]; omega
        · rw [if_neg (fun h => hn h.1), if_neg (fun h => hn h.1), if_neg hn]; omega
      · simp only [posTot]
        by_cases hn : x.good = n
        · rw [if_pos ⟨hn, hx⟩, if_pos hn]; omega
        · rw [if_neg (fun h => hn h.1), if_neg hn]; omega
theorem jIns_mem {L : List Lt} {x z : Lt} (h : z ∈ jIns L x) : z.good = x.good ∨ ∃ y ∈ L, z.good = y.good := by
  induction L with
  | nil => simp [jIns] at h; exact .inl (by rw [h])
  | cons y r ih =>
    unfold jIns at h
    split at h
    · rcases List.mem_cons.1 h with rfl | h'
      · exact .inr ⟨z, List.mem_cons_self, rfl⟩
      · exact (ih h').imp id fun ⟨w, hw, e⟩ => ⟨w, List.mem_cons_of_mem _ hw, e⟩
    · split at h
      · rcases List.mem_cons.1 h with rfl | h'
        · exact .inr ⟨y, List.mem_cons_self, rfl⟩
        · exact .inr ⟨z, List.mem_cons_of_mem _ h', rfl⟩
      · rcases List.mem_cons.1 h with rfl | h'
        · exact .inl rfl
        · exact .inr ⟨z, h', rfl⟩
theorem bt_cases {a b : ByteArray} (h1 : ¬ bt a < bt b) (h2 : ¬ a = b) : bt b < bt a := by
  rcases List.le_iff_lt_or_eq.1 (List.not_lt.1 h1) with h | h
  · exact h
  · exact absurd (bt_inj h).symm h2
theorem jIns_norm {L : List Lt} {x : Lt} (h : Norm L) (hx : 0 < x.cnt) : Norm (jIns L x) := by
  induction L with
  | nil => exact ⟨by simp [jIns], by simp [jIns, hx]⟩
  | cons y r ih =>
    have hu := List.pairwise_cons.1 h.up
    have hr : Norm r := ⟨hu.2, fun x hx => h.pos x (List.mem_cons_of_mem _ hx)⟩
    have hy := h.pos y List.mem_cons_self
    unfold jIns
    split
    · rename_i h1
      refine ⟨List.pairwise_cons.2 ⟨fun z hz => ?_, (ih hr).up⟩, fun z hz => ?_⟩
      · rcases jIns_mem hz with e | ⟨q, hq, e⟩
        · rw [e]; exact h1
        · rw [e]; exact hu.1 q hq
      · rcases List.mem_cons.1 hz with rfl | hz
        · exact hy
        · exact (ih hr).pos z hz
    · rename_i h1
      split
      · refine ⟨List.pairwise_cons.2 ⟨hu.1, hu.2⟩, fun z hz => ?_⟩
        rcases List.mem_cons.1 hz with rfl | hz
        · show 0 < y.cnt + x.cnt; omega
        · exact hr.pos z hz
      · rename_i h2
        have h3 := bt_cases h1 h2
        refine ⟨List.pairwise_cons.2 ⟨fun z hz => ?_, h.up⟩, fun z hz => ?_⟩
        · rcases List.mem_cons.1 hz with rfl | hz
          · exact h3
          · exact List.lt_trans h3 (hu.1 z hz)
        · rcases List.mem_cons.1 hz with rfl | hz
          · exact hx
          · exact h.pos z hz
theorem joinL_both (l : List Lt) : Norm (joinL l) ∧ ∀ n, posTot (joinL l) n = posTot l n := by
  have : ∀ (l out : List Lt), Norm out → Norm (l.foldl (fun out x => if x.cnt < 1 then out else jIns out x) out) ∧ ∀ n, posTot (l.foldl (fun out x => if x.cnt < 1 then out else jIns out x) out) n = posTot out n + posTot l n := by
    intro l
    induction l with
    | nil => exact fun out h => ⟨h, fun n => by simp [posTot]⟩
    | cons x r ih =>
      intro out h
      rw [List.foldl_cons]
      by_cases hx : x.cnt < 1
      · rw [if_pos hx]
        refine ⟨(ih out h).1, fun n => ?_⟩
        rw [(ih out h).2, posTot, if_neg (fun h => by omega), Int.zero_add]
      · rw [if_neg hx]
        have hx' : 0 < x.cnt := by omega
        have h' := jIns_norm h hx'
        refine ⟨(ih _ h').1, fun n => ?_⟩
        rw [(ih _ h').2, jIns_tot out x hx' h.pos, posTot]
        by_cases hn : x.good = n
        · rw [if_pos hn, if_pos ⟨hn, hx'⟩]; omega
        · rw [if_neg hn, if_neg (fun h => hn h.1)]; omega
  have h := this l [] ⟨by simp, by simp⟩
  exact ⟨h.1, fun n => by rw [joinL, h.2]; simp [posTot]⟩
theorem joinL_norm (l : List Lt) : Norm (joinL l) := (joinL_both l).1
theorem joinL_tot (l : List Lt) (n : ByteArray) : posTot (joinL l) n = posTot l n := (joinL_both l).2 n
/-- What is left of l, when m is taken. -/
def canTake (l m : List Lt) : Prop := ∀ n, posTot m n ≤ posTot l n
def leftL (l m : List Lt) : List Lt := (joinL l).filterMap fun x => if x.cnt - posTot m x.good = 0 then none else some ⟨x.good, x.cnt - posTot m x.good⟩
theorem leftL_norm {l m : List Lt} (h : canTake l m) : Norm (leftL l m) := by
  have hn := joinL_norm l
  refine ⟨?_, fun x hx => ?_⟩
  · rw [leftL, List.pairwise_filterMap]
    refine hn.up.imp fun {a b} hab => ?_
    intro c hc d hd
    split at hc
    · cases hc
    · split at hd
      · cases hd
      · obtain rfl := Option.some.inj hc
        obtain rfl := Option.some.inj hd
        exact hab
  · obtain ⟨y, hy, hyx⟩ := List.mem_filterMap.1 hx
    split at hyx
    · cases hyx
    · rename_i h0
      obtain rfl := Option.some.inj hyx
      have h1 := posTot_of hn hy
      have h2 := h y.good
      rw [joinL_tot] at h1
      show 0 < y.cnt - posTot m y.good
      omega
theorem leftL_tot {l m : List Lt} (h : canTake l m) (n : ByteArray) : posTot (leftL l m) n = posTot l n - posTot m n := by
  have hn := joinL_norm l
  have hl := leftL_norm h
  have h2 := h n
  have h0 := posTot_nonneg m n
  rcases Int.lt_or_le 0 (posTot l n - posTot m n) with h3 | h3
  · have hx : (⟨n, posTot l n⟩ : Lt) ∈ joinL l := (mem_norm hn).2 ⟨by show 0 < posTot l n; omega, joinL_tot l n⟩
    have hz : (⟨n, posTot l n - posTot m n⟩ : Lt) ∈ leftL l m := List.mem_filterMap.2 ⟨_, hx, by
      show (if posTot l n - posTot m n = 0 then none else some (⟨n, posTot l n - posTot m n⟩ : Lt)) = _
      rw [if_neg (by omega)]⟩
    exact posTot_of hl hz
  · have h4 := posTot_nonneg (leftL l m) n
    rcases Int.lt_or_le 0 (posTot (leftL l m) n) with h5 | h5
    · obtain ⟨x, hx, hxn, hxp⟩ := posTot_pos.1 h5
      obtain ⟨y, hy, hyx⟩ := List.mem_filterMap.1 hx
      split at hyx
      · cases hyx
      · obtain rfl := Option.some.inj hyx
        have h6 := posTot_of hn hy
        rw [joinL_tot] at h6
        simp only at hxn hxp
        rw [hxn] at h6 hxp
        omega
    · omega
end Go.Proofs.YtnbhneeohkfocaaDoor.Sc
namespace Go.Proofs.YtnbhneeohkfocaaDoor.Sc
open Go Go.RowKit Go.ChangeShapes Go.WideShapes Go.ChangeAt
set_option maxRecDepth 100000

def FewP (w : World) (p : Prop) (e : Ending) (w' : World) : Prop := ∃ b, e = .returned (.bool b) ∧ (b = true → p) ∧ Below w.heap.size w w'
structure LtFew (l : List Lt) : Prop where
  len : l.length ≤ 41
  cnt : ∀ x ∈ l, x.cnt ≤ 1099511627776
  name : ∀ x ∈ l, x.good.size ≤ 60
end Go.Proofs.YtnbhneeohkfocaaDoor.Sc
namespace Go.Proofs.YtnbhneeohkfocaaDoor.Sc
open Go Go.RowKit Go.ChangeShapes Go.WideShapes Go.ChangeAt
set_option maxRecDepth 100000

def Lt.val (x : Lt) : Value := .agg #[.string x.good, .int .i64 x.cnt]
structure Lt.fit (x : Lt) : Prop where
  good : x.good.size ≤ maxLen
theorem lt_cells {w : World} {b : Nat} {x0 x1 : Value} {T : TypeId} (h : w.heap[b]? = some (.cells #[x0, x1] T (0, 0))) : w.cell? ⟨b, 0, none⟩ = some x0 ∧ w.cell? ⟨b, 1, none⟩ = some x1 := ⟨cell_blk h 0, cell_blk h 1⟩
/-- The entries tell how many there are. -/
def CntOf (es : Mp.Ents) (l : List Lt) : Prop := ∀ n, Mp.mget es n = if 0 < posTot l n then some (.int .i64 (posTot l n)) else none
theorem cntOf_nil : CntOf [] [] := fun n => by simp [Mp.mget, posTot]
theorem posTot_snoc (l : List Lt) (x : Lt) (n : ByteArray) : posTot (l ++ [x]) n = posTot l n + if x.good = n ∧ 0 < x.cnt then x.cnt else 0 := by
  rw [posTot_append]; simp [posTot]
theorem cntOf_skip {es : Mp.Ents} {l : List Lt} {x : Lt} (h : CntOf es l) (hx : ¬ 0 < x.cnt) : CntOf es (l ++ [x]) := fun n => by
  have e : posTot (l ++ [x]) n = posTot l n := by rw [posTot_snoc, if_neg (fun h => hx h.2), Int.add_zero]
  rw [e]
  exact h n
theorem cntOf_put {es : Mp.Ents} {l : List Lt} {x : Lt} (h : CntOf es l) (hx : 0 < x.cnt) : CntOf (Mp.mput es x.good (.int .i64 (posTot l x.good + x.cnt))) (l ++ [x]) := fun n => by
  have h0 := posTot_nonneg l n
  by_cases hn : x.good = n
  · subst hn
    have e : posTot (l ++ [x]) x.good = posTot l x.good + x.cnt := by rw [posTot_snoc, if_pos ⟨rfl, hx⟩]
    rw [Mp.mget_mput_same, e, if_pos (by omega)]
  · have e : posTot (l ++ [x]) n = posTot l n := by rw [posTot_snoc, if_neg (fun h => hn h.1), Int.add_zero]
    rw [Mp.mget_mput_other _ _ (fun e => hn e.symm), e]
    exact h n
theorem cntOf_old {es : Mp.Ents} {l : List Lt} (h : CntOf es l) (n : ByteArray) : (Mp.mget es n).getD (.int .i64 0) = .int .i64 (posTot l n) := by
  rw [h n]
  split
  · rfl
  · have := posTot_nonneg l n
    have : posTot l n = 0 := by omega
    rw [this]; rfl
theorem posTot_le {l : List Lt} (h : ∀ x ∈ l, x.cnt ≤ 1099511627776) (n : ByteArray) : posTot l n ≤ 1099511627776 * l.length := by
  induction l with
  | nil => simp [posTot]
  | cons x r ih =>
    have h1 := ih (fun y hy => h y (List.mem_cons_of_mem _ hy))
    have h2 := h x List.mem_cons_self
    simp only [posTot, List.length_cons]
    split <;> omega
/-- A new map of numbers. -/
def MapP (w : World) (l : List Lt) (e : Ending) (w' : World) : Prop := ∃ bm es, e = .returned (.map (some bm)) ∧ w.heap.size ≤ bm ∧ Mp.MapAt w' bm es ∧ CntOf es l ∧ es.length ≤ l.length ∧ Below w.heap.size w w'
theorem wrap_q {x : Int} (h : -9223372036854775808 ≤ x ∧ x ≤ 9223372036854775807) : wrap64 x = x := by unfold wrap64; omega
theorem zeroInt (w : World) : (zeroValue 3).run Tryd.prog w = .ok (.int .i64 0) w := by kernel_rfl
theorem posTot_next {l : List Lt} {k : Nat} (h : k < l.length) (h0 : 0 < l[k].cnt) : posTot (l.take k) l[k].good + l[k].cnt ≤ posTot l l[k].good := by
  have e : posTot l l[k].good = posTot (l.take (k + 1)) l[k].good + posTot (l.drop (k + 1)) l[k].good := by rw [← posTot_append, List.take_append_drop]
  have h1 := posTot_nonneg (l.drop (k + 1)) l[k].good
  rw [e, List.take_succ_eq_append_getElem h, posTot_snoc, if_pos ⟨rfl, h0⟩]
  omega
set_option maxHeartbeats 4000000 in
theorem counts_all (l : List Lt) (v : Value) (w : World) (hs : Sl w 2 v (l.map Lt.row)) (hl : l.length ≤ 100000) (hc : ∀ n, posTot l n ≤ 4611686018427387904) :
    Calls Tryd.prog 47 #[v] w (MapP w l) := by
  obtain ⟨a, c, rfl⟩ : ∃ a c, v = .slice a l.length c := by simpa using hs.shape
  have hll : l.length ≤ 9223372036854775807 := by omega
  have HS := Lib.hid hs
  have HL := Lib.hid hl
  have HC := Lib.hid hc
  have tm : ∀ W : World, (Instr.makeMap 92 none).run Tryd.prog W = .ok (.map (some W.heap.size)) (W.alloc (.map #[] 0)) := fun W => by kernel_rfl
  have HM0 := Lib.hid (Mp.MapAt.made w)
  clear hs hl hc
  go_enter Tryd.func47, Tryd.ntmps47
  go_wp2_with fail
  obtain ⟨bm, hbm⟩ : ∃ b, b = w.heap.size := ⟨_, rfl⟩
  rw [← hbm] at HM0 ⊢
  have HBM : Hid (w.heap.size ≤ bm) := Lib.hid (by omega)
  clear hbm tm
  go_loopw [5, 9] (fun _ i wr => ∃ (k : Nat) (es : Mp.Ents), k ≤ l.length ∧ i = .int .i64 k ∧ Mp.MapAt wr bm es ∧ CntOf es (l.take k) ∧ es.length ≤ k ∧ Below w.heap.size w wr) (fun _ i _ => l.length - (intOf i).toNat)
  case atStart => exact ⟨0, [], Nat.zero_le _, rfl, HM0.out, cntOf_nil, Nat.le_refl _, one_below _ _⟩
  case round =>
    obtain ⟨k, es, hk, rfl, hm, hcn, hel, hbel⟩ := hrel
    have HBEL := Lib.hid hbel
    have HM := Lib.hid hm
    have HCN := Lib.hid hcn
    have HEL := Lib.hid hel
    by_cases hlt : k < l.length
    · obtain ⟨b, off, rfl, -, hb, hc⟩ := HS.out.at (i := k) (by simpa using hlt)
      have d0 := (hbel.cell (p := ⟨b, off + k * 2, none⟩) hb).trans (hc k l[k].row (by simp [hlt]) 0 _ rfl)
      have d1 := (hbel.cell (p := ⟨b, off + k * 2 + 1, none⟩) hb).trans (hc k l[k].row (by simp [hlt]) 1 _ rfl)
      have HTK : Hid (l.take (k + 1) = l.take k ++ [l[k]]) := Lib.hid (List.take_succ_eq_append_getElem hlt)
      have hnx : 0 < l[k].cnt → posTot (l.take k) l[k].good + l[k].cnt ≤ 4611686018427387904 := fun h => Int.le_trans (posTot_next hlt h) (HC.out _)
      have h0 := posTot_nonneg (l.take k) l[k].good
      generalize l[k] = x at *
      obtain ⟨xn, xc⟩ := x
      simp only at d0 d1 hnx h0
      obtain ⟨O, hO⟩ : ∃ O, O = posTot (l.take k) xn := ⟨_, rfl⟩
      rw [← hO] at hnx h0
      have HOO := Lib.hid hO
      have HGV : Hid ((Mp.mget es xn).getD (.int .i64 0) = .int .i64 O) := Lib.hid (by rw [hO]; exact cntOf_old hcn xn)
      have HB0 := Lib.hid (one_below wr (.cells #[.string xn, .int .i64 xc] 59))
      clear hc hbel hm hcn hO
      by_cases hp : 0 < xc
      · have tp : decide (0 < xc) = true := decide_eq_true hp
        have HNX : Hid (CntOf (Mp.mput es xn (.int .i64 (O + xc))) (l.take (k + 1))) := Lib.hid (by rw [HTK.out, HOO.out]; exact cntOf_put (x := ⟨xn, xc⟩) HCN.out hp)
        have hq := hnx hp
        have eO : wrap64 (O + xc) = O + xc := wrap_q (by omega)
        clear hp hq hnx
        go_wp2_with (first
          | ((with_reducible refine Mp.wpl_val (l := es) (key := xn) (v := .int .i64 O) ?_ ?_ ?_ Tryd.underlying92 Tryd.underlying9 (zeroInt _) (HM.out.same (Below.heap_alloc _ _ _ HM.out.lt)) HGV.out ?_); rfl; rfl; rfl)
          | ((with_reducible refine Mp.wpl_update (b := bm) (l := es) (key := xn) (v := .int .i64 (O + xc)) ?_ ?_ ?_ ?_ Tryd.underlying92 Tryd.underlying9 (HM.out.same (Below.heap_alloc _ _ _ HM.out.lt)) ?_); rfl; rfl; rfl; exact congrArg (Value.int .i64) eO; intro w5 hm5 hg5 hz5; have HM5 := Lib.hid hm5; have HG5 := Lib.hid hg5; clear hm5 hg5 hz5; go_frame)
          | fail)
        go_roundw
        case rel => exact ⟨k + 1, _, by omega, by go_num, HM5.out, HNX.out, by have := Mp.mput_length_le es xn (.int .i64 (O + xc)); have := HEL.out; omega, (HBEL.out.trans (HB0.out.mono HBEL.out.size)).grown HG5.out (Nat.le_trans HBEL.out.size HB0.out.size) (fun j hj => by obtain rfl : bm = j := Option.some.inj hj; exact HBM.out)⟩
        case measure => (simp [intOf]) <;> omega
      · have tp : decide (0 < xc) = false := decide_eq_false hp
        have HNX : Hid (CntOf es (l.take (k + 1))) := Lib.hid (by rw [HTK.out]; exact cntOf_skip HCN.out hp)
        clear hp hnx
        go_wp2_with fail
        go_roundw
        case rel => exact ⟨k + 1, es, by omega, by go_num, HM.out.same (Below.heap_alloc _ _ _ HM.out.lt), HNX.out, by have := HEL.out; omega, HBEL.out.trans (HB0.out.mono HBEL.out.size)⟩
        case measure => (simp [intOf]) <;> omega
    · have HE : Hid (l.take k = l) := Lib.hid (List.take_of_length_le (by omega))
      have HKL : Hid (es.length ≤ l.length) := Lib.hid (by omega)
      clear hbel hm hcn hel
      go_wp2_with fail
      go_ret
      exact ⟨bm, es, rfl, HBM.out, HM.out, by have := HCN.out; rwa [HE.out] at this, HKL.out, HBEL.out⟩
end Go.Proofs.YtnbhneeohkfocaaDoor.Sc
namespace Go.Proofs.YtnbhneeohkfocaaDoor.Sc
open Go Go.RowKit Go.ChangeShapes Go.WideShapes Go.ChangeAt Go.Sort Go.Shelf
set_option maxRecDepth 100000

instance inhLt : Inhabited Lt := ⟨⟨⟨#[]⟩, 0⟩⟩
def ltCells (l : List Lt) : List Value := l.flatMap Lt.row
theorem ltCells_flat (l : List Lt) : ltCells l = (l.map Lt.row).flatten := by rw [ltCells, List.flatMap_def]
theorem lt_rows (l : List Lt) : ∀ r ∈ l.map Lt.row, r.length = 2 := by
  intro r hr
  obtain ⟨b, -, rfl⟩ := List.mem_map.1 hr
  rfl
def cmpS (a b : ByteArray) : Int := if bt a < bt b then -1 else if bt b < bt a then 1 else 0
theorem less_bt (a b : ByteArray) : Op.bytesLess a.toList b.toList = decide (bt a < bt b) := by rw [bytesLess_eq, ByteArray.toList_eq, ByteArray.toList_eq]; rfl
theorem nan_any (a : ByteArray) (w : World) : Calls Tryd.prog 80 #[.string a] w (fun e w' => e = .returned (.bool false) ∧ w' = w) := by
  have t1 : (a.toList != a.toList) = false := by simp
  go_enter Tryd.func80, Tryd.ntmps80
  go_wp2
  go_ret
  exact ⟨by simp, rfl⟩
set_option maxHeartbeats 2000000 in
theorem compare_any (a b : ByteArray) (w : World) : Calls Tryd.prog 68 #[.string a, .string b] w (fun e w' => e = .returned (.int .i64 (cmpS a b)) ∧ w' = w) := by
  have HN := Lib.hid (fun a W => nan_any a W)
  by_cases h1 : bt a < bt b
  · have t1 : Op.bytesLess a.toList b.toList = true := by rw [less_bt, decide_eq_true h1]
    have HQ : Hid (cmpS a b = -1) := Lib.hid (if_pos h1)
    clear h1
    go_enter Tryd.func68, Tryd.ntmps68
    go_wp2_with (first | ((with_reducible refine (HN.out _ _).mono ?_); rintro e w2 ⟨rfl, rfl⟩) | fail)
    go_ret
    exact ⟨by rw [HQ.out]; rfl, rfl⟩
  · have t1 : Op.bytesLess a.toList b.toList = false := by rw [less_bt, decide_eq_false h1]
    by_cases h2 : bt b < bt a
    · have t2 : (a.toList == b.toList) = false := by
        have hne : ¬ a.toList = b.toList := fun e => by
          rw [ByteArray.toList_eq, ByteArray.toList_eq] at e
          have e' : bt a = bt b := e
          rw [e'] at h2
          exact List.lt_irrefl _ h2
        simp [hne]
      have HQ : Hid (cmpS a b = 1) := Lib.hid (by rw [cmpS, if_neg h1, if_pos h2])
      clear h1 h2
      go_enter Tryd.func68, Tryd.ntmps68
      go_wp2_with (first | ((with_reducible refine (HN.out _ _).mono ?_); rintro e w2 ⟨rfl, rfl⟩) | fail)
      go_ret
      exact ⟨by rw [HQ.out]; rfl, rfl⟩
    · have t2 : (a.toList == b.toList) = true := by
        have e : bt a = bt b := List.le_antisymm (List.not_lt.1 h2) (List.not_lt.1 h1)
        have e' : a = b := bt_inj e
        simp [e']
      have HQ : Hid (cmpS a b = 0) := Lib.hid (by rw [cmpS, if_neg h1, if_neg h2])
      clear h1 h2
      go_enter Tryd.func68, Tryd.ntmps68
      go_wp2_with (first | ((with_reducible refine (HN.out _ _).mono ?_); rintro e w2 ⟨rfl, rfl⟩) | fail)
      go_ret
      exact ⟨by rw [HQ.out]; rfl, rfl⟩
set_option maxHeartbeats 2000000 in
theorem byGood_any (x y : Lt) (W : World) : Calls Tryd.prog 67 #[x.val, y.val] W (fun e w' => e = .returned (.int .i64 (cmpS x.good y.good)) ∧ ∃ q os', w' = Go.Sort.grow (W.drewN q) os') := by
  obtain ⟨xn, xc⟩ := x
  obtain ⟨yn, yc⟩ := y
  simp only [Lt.val]
  have HC := Lib.hid (fun W => compare_any xn yn W)
  generalize cmpS xn yn = r at HC ⊢
  go_enter Tryd.func67, Tryd.ntmps67
  go_wp2_with (first | ((with_reducible refine (HC.out _).mono ?_); rintro e w2 ⟨rfl, rfl⟩) | fail)
  go_ret
  exact ⟨rfl, 0, _, by rw [alloc_eq_grow, alloc_eq_grow, grow_grow]; rfl⟩
def lessL (x y : Lt) : Bool := ltOf (fun x y : Lt => cmpS x.good y.good) x y
theorem less_lt (x y : Lt) : ltOf (fun x y : Lt => cmpS x.good y.good) x y = decide (bt x.good < bt y.good) := by
  unfold ltOf cmpS
  by_cases h1 : bt x.good < bt y.good
  · simp [h1]
  · by_cases h2 : bt y.good < bt x.good <;> simp [h1, h2]
theorem swo_lots : SWO (ltOf fun x y : Lt => cmpS x.good y.good) where
  irrefl x := by rw [less_lt]; simp
  trans x y z h1 h2 := by rw [less_lt, decide_eq_true_eq] at *; exact List.lt_trans h1 h2
  ntrans x y z h1 h2 := by
    rw [less_lt, decide_eq_false_iff_not, List.not_lt] at *
    exact List.le_trans h2 h1
theorem flat_lots (d : Array Lt) : (flatK Lt.row 2 d).toList = ltCells d.toList := by
  rw [ltCells_flat]
  apply List.ext_getElem?
  intro t
  by_cases ht : t < d.size * 2
  · have e := flat_get (sz := 2) (d.toList.map Lt.row) (lt_rows d.toList) (t / 2) (t % 2) (Nat.mod_lt _ (by decide))
    have e2 : t / 2 * 2 + t % 2 = t := Nat.div_add_mod' t 2
    have h2 : t / 2 < d.size := by omega
    rw [e2] at e
    rw [e, List.getElem?_map, Array.getElem?_toList, Array.getElem?_toList, Array.getElem?_eq_getElem h2]
    have h3 := get_flatK Lt.row 2 d t ht
    have h4 : t < (flatK Lt.row 2 d).size := by simpa using ht
    rw [getElem!_pos _ t h4, getElem!_pos d (t / 2) h2] at h3
    rw [Array.getElem?_eq_getElem h4, h3]
    have h5 : t % 2 < (Lt.row d[t / 2]).length := Nat.mod_lt _ (by decide)
    simp only [Option.map_some, Option.bind_some]
    rw [List.getElem?_eq_getElem h5, getElem!_pos (Lt.row d[t / 2]) (t % 2) h5]
  · rw [List.getElem?_eq_none (by simp; omega), List.getElem?_eq_none]
    rw [flat_len (sz := 2) _ (lt_rows d.toList)]
    simp; omega
theorem own_put {w : World} {B g cap n m sz : Nat} {t : TypeId} {xs : List Value} {F : Array Value} {os : Array Obj} (h : w.ownsRow B t sz (.slice (some ⟨g, 0, none⟩) n cap) n xs) (hl : F.size = xs.length) :
    (Go.Sort.grow (Go.Sort.putRow id (Go.Sort.ahead w m) g 0 F) os).ownsRow B t sz (.slice (some ⟨g, 0, none⟩) n cap) n F.toList ∧ w.grownBy (Go.Sort.grow (Go.Sort.putRow id (Go.Sort.ahead w m) g 0 F) os) (some g) := by
  obtain ⟨h1, h2⟩ := h
  rcases h2 with ⟨h2, _⟩ | ⟨g', cap', cur, hv, hB, hh, h3, h4, h5, h6⟩
  · cases h2
  simp only [Value.slice.injEq, Option.some.injEq, Addr.mk.injEq, and_true, true_and] at hv
  obtain ⟨rfl, rfl⟩ := hv
  have hlt : g < w.heap.size := lt_blk hh
  have hb : (Go.Sort.grow (Go.Sort.putRow id (Go.Sort.ahead w m) g 0 F) os).heap[g]? = some (.cells (Go.Sort.putCells id 0 F cur) t (0, 0)) := by
    rw [Go.Sort.heap_grow_old _ _ (by rw [Go.Sort.size_putRow]; exact hlt)]
    simp only [Go.Sort.putRow, Go.Sort.mapBlock, Go.Sort.heap_ahead, Array.getElem?_modify, if_true, hh, Option.map_some, Go.Sort.onCells]
  have hxl : xs.length ≤ cur.size := by rw [← h6, List.length_take]; simp; omega
  refine ⟨⟨by simp [hl, h1], .inr ⟨g, cap, _, rfl, hB, hb, h3, h4, by simp [Go.Sort.putCells, h5], ?_⟩⟩, rfl, rfl, rfl, by simp, fun k hk hne => ?_⟩
  · apply List.ext_getElem?
    intro k
    rw [List.getElem?_take]
    split
    · rename_i hk
      have hkl : k < F.size := by omega
      have hkc : k < cur.size := by omega
      simp only [Array.getElem?_toList, Go.Sort.putCells, Array.getElem?_mapIdx, Array.getElem?_eq_getElem hkc, Option.map_some]
      rw [if_pos ⟨Nat.zero_le _, by omega⟩, Array.getElem?_eq_getElem hkl]
      simp [hkl]
    · rw [List.getElem?_eq_none (by simp; omega)]
  · rw [Go.Sort.heap_grow_old _ _ (by rw [Go.Sort.size_putRow]; exact hk)]
    have : ¬ g = k := fun e => hne (by rw [e])
    simp only [Go.Sort.putRow, Go.Sort.mapBlock, Go.Sort.heap_ahead, Array.getElem?_modify, this, if_false]
theorem own_holdsK {w : World} {B g cap n : Nat} {t : TypeId} {d : Array Lt} (h : w.ownsRow B t 2 (.slice (some ⟨g, 0, none⟩) n cap) n (ltCells d.toList)) : HoldsK Lt.row 2 w g 0 d ∧ g < w.heap.size := by
  obtain ⟨h1, h2⟩ := h
  rcases h2 with ⟨h2, _⟩ | ⟨g', cap', cur, hv, hB, hh, h3, h4, h5, h6⟩
  · cases h2
  simp only [Value.slice.injEq, Option.some.injEq, Addr.mk.injEq, and_true, true_and] at hv
  obtain ⟨rfl, rfl⟩ := hv
  refine ⟨fun j hj => ⟨?_, free_blk hh _⟩, lt_blk hh⟩
  rw [cell_blk hh, Nat.zero_add]
  have hjl : j < n * 2 := by rw [← h1, ← flat_lots]; simpa using hj
  have h7 : (cur.toList.take (n * 2))[j]? = (flatK Lt.row 2 d).toList[j]? := by rw [h6, flat_lots]
  rw [List.getElem?_take, if_pos hjl, Array.getElem?_toList, Array.getElem?_toList, Array.getElem?_eq_getElem hj] at h7
  rw [h7]
  rw [getElem!_pos _ j hj]
  rfl
/-- The call sorts a row of lots of its own. -/
def SortedP (w : World) (B : Nat) (v : Value) (n : Nat) (D : List Lt) (e : Ending) (w' : World) : Prop :=
  e = .returned (.tuple #[]) ∧ ∃ D', D'.Perm D ∧ (D'.Pairwise fun a b => ¬ bt b.good < bt a.good) ∧ w'.ownsRow B 59 2 v n (ltCells D') ∧ w.grownBy w' v.ownBlock
theorem sortLots_any (D : List Lt) (v : Value) (n B : Nat) (w : World) (h : w.ownsRow B 59 2 v n (ltCells D)) (hn : n = D.length) (hlen : D.length ≤ 1000000000) :
    Calls Tryd.prog 66 #[v, .func (.func 67) #[] #[]] w (SortedP w B v n D) := by
  subst hn
  have h' := h
  rcases h.2 with ⟨rfl, h0⟩ | ⟨g, cap, cur, rfl, hg, hh, h3, h4, h5, h6⟩
  · obtain rfl : D = [] := List.length_eq_zero_iff.1 h0
    refine (AnyF.slices_SortFunc_none Tryd.sortLot none 0 _ w).mono ?_
    rintro e w' ⟨rfl, rfl⟩
    exact ⟨rfl, [], List.Perm.refl _, List.Pairwise.nil, by simpa using h', rfl, rfl, rfl, Nat.le_refl _, fun _ _ _ => rfl⟩
  · have hD : (D.toArray).toList = D := by simp
    obtain ⟨hH, hlt⟩ := own_holdsK (d := D.toArray) (by rw [hD]; exact h)
    have eg : ∀ args w, (callFunc 67 args).run Tryd.prog w = .ok (.enter 67 args) w := enters_of Tryd.func67 (by kernel_rfl) rfl
    have hcl : CmpLays Tryd.prog 67 #[] Lt.row 2 (fun x y => cmpS x.good y.good) g 0 D.toArray.size w := fun _ _ _ _ x y => byGood_any x y _
    have hcon := AnyQ.slices_SortFunc Tryd.sortLot 2 Tryd.isAgg59 Tryd.sizeOf59 Lt.row (fun _ => rfl) (fun x v hv => by simp [Lt.row] at hv; rcases hv with rfl | rfl <;> rfl) (fun x y => cmpS x.good y.good) swo_lots 67 #[] g 0 cap D.toArray w eg hcl hH hlt (by simp; omega)
    have hsz : D.toArray.size = D.length := by simp
    rw [hsz] at hcon
    refine hcon.mono ?_
    rintro e w' ⟨rfl, d', q, os, hp, hs, rfl⟩
    have hdl : d'.size = D.length := by rw [hp.1]; simp
    have hp2 : d'.toList.Perm D := by
      have := hp.2.2
      have e1 : d'.extract 0 D.length = d' := by rw [← hdl]; exact Array.extract_size
      rw [e1] at this
      simpa using this
    have hs2 : d'.toList.Pairwise fun a b => ¬ bt b.good < bt a.good := by
      rw [List.pairwise_iff_getElem]
      intro i j hi hj hij
      have hi' : i < d'.size := by simpa using hi
      have hj' : j < d'.size := by simpa using hj
      have := hs i j (Nat.zero_le _) hij (by omega)
      rw [getElem!_pos d' j hj', getElem!_pos d' i hi', less_lt] at this
      simpa using this
    have ho := own_put (m := q) (os := os) (F := flatK Lt.row 2 d') h (by rw [size_flatK, hdl, ltCells_flat, flat_len (sz := 2) _ (lt_rows D)]; simp)
    rw [flat_lots] at ho
    exact ⟨rfl, d'.toList, hp2, hs2, ho.1, ho.2⟩
end Go.Proofs.YtnbhneeohkfocaaDoor.Sc
