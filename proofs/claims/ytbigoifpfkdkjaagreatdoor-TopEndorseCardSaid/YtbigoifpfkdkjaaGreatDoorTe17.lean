/- Texts by their bytes, in order. few, Few. -/
import Derived.Test.YtbigoifpfkdkjaaGreatDoorTe01
import Derived.Test.YtbigoifpfkdkjaaGreatDoorTe16
import Derived.ChangeMaps5
namespace Go.Proofs.YtbigoifpfkdkjaaGreatDoor.Sc
open Go Go.RowKit Go.ChangeShapes Go.WideShapes Go.ChangeAt

def bt (s : ByteArray) : List UInt8 := s.data.toList
theorem bt_inj {a b : ByteArray} (h : bt a = bt b) : a = b := bytes_inj h
theorem bytesLess_eq : ∀ (x y : List UInt8), Op.bytesLess x y = decide (x < y)
  | [], [] => rfl
  | [], b :: y => by simp [Op.bytesLess]
  | a :: x, [] => by simp [Op.bytesLess]
  | a :: x, b :: y => by
    simp only [Op.bytesLess, bytesLess_eq x y, List.cons_lt_cons_iff]
    rw [Bool.eq_iff_iff]
    simp
end Go.Proofs.YtbigoifpfkdkjaaGreatDoor.Sc
namespace Go.Proofs.YtbigoifpfkdkjaaGreatDoor.Sc
open Go Go.RowKit
set_option maxRecDepth 100000

structure Lt where
  good : ByteArray
  cnt : Int
def Lt.row (x : Lt) : List Value := [.string x.good, .int .i64 x.cnt]
/-- How many pieces there are of a good. -/
def posTot : List Lt → ByteArray → Int
  | [], _ => 0
  | x :: r, n => (if x.good = n ∧ 0 < x.cnt then x.cnt else 0) + posTot r n
theorem posTot_append (l m : List Lt) (n : ByteArray) : posTot (l ++ m) n = posTot l n + posTot m n := by
  induction l with
  | nil => simp [posTot]
  | cons x r ih => simp only [List.cons_append, posTot, ih]; omega
theorem posTot_nonneg (l : List Lt) (n : ByteArray) : 0 ≤ posTot l n := by
  induction l with
  | nil => simp [posTot]
  | cons x r ih =>
    simp only [posTot]
    split <;> omega
theorem posTot_pos {l : List Lt} {n : ByteArray} : 0 < posTot l n ↔ ∃ x ∈ l, x.good = n ∧ 0 < x.cnt := by
  induction l with
  | nil => simp [posTot]
  | cons x r ih =>
    have h0 := posTot_nonneg r n
    simp only [posTot, List.mem_cons, exists_eq_or_imp]
    by_cases h : x.good = n ∧ 0 < x.cnt
    · rw [if_pos h]
      exact ⟨fun _ => .inl h, fun _ => by omega⟩
    · rw [if_neg h, Int.zero_add, ih]
      exact ⟨.inr, fun h1 => h1.elim (fun h2 => absurd h2 h) id⟩
/-- Lots in order, each good once, none of nothing. -/
structure Norm (L : List Lt) : Prop where
  up : L.Pairwise fun a b => bt a.good < bt b.good
  pos : ∀ x ∈ L, 0 < x.cnt
theorem norm_goods {L : List Lt} (h : Norm L) : (L.map Lt.good).Nodup := by
  rw [List.Nodup, List.pairwise_map]
  exact h.up.imp fun {a b} hab e => by rw [e] at hab; exact List.lt_irrefl _ hab
theorem posTot_of {L : List Lt} (h : Norm L) {x : Lt} (hx : x ∈ L) : posTot L x.good = x.cnt := by
  induction L with
  | nil => simp at hx
  | cons y r ih =>
    have hr : Norm r := ⟨(List.pairwise_cons.1 h.up).2, fun x hx => h.pos x (List.mem_cons_of_mem _ hx)⟩
    have hn := norm_goods h
    simp only [List.map_cons, List.nodup_cons] at hn
    rcases List.mem_cons.1 hx with rfl | hx'
    · have h0 : posTot r x.good = 0 := by
        have h1 := posTot_nonneg r x.good
        rcases Int.lt_or_le 0 (posTot r x.good) with h2 | h2
        · obtain ⟨z, hz, hzg, -⟩ := posTot_pos.1 h2
          exact absurd (List.mem_map.2 ⟨z, hz, hzg⟩) hn.1
        · omega
      rw [posTot, if_pos ⟨rfl, h.pos x List.mem_cons_self⟩, h0, Int.add_zero]
    · have hne : ¬ y.good = x.good := fun e => hn.1 (List.mem_map.2 ⟨x, hx', e.symm⟩)
      rw [posTot, if_neg (fun h => hne h.1), Int.zero_add]
      exact ih hr hx'
theorem mem_norm {L : List Lt} (h : Norm L) {x : Lt} : x ∈ L ↔ 0 < x.cnt ∧ posTot L x.good = x.cnt := by
  constructor
  · exact fun hx => ⟨h.pos x hx, posTot_of h hx⟩
  · rintro ⟨h1, h2⟩
    obtain ⟨z, hz, hzg, -⟩ := posTot_pos.1 (show 0 < posTot L x.good by omega)
    have h3 := posTot_of h hz
    rw [hzg, h2] at h3
    obtain ⟨zg, zc⟩ := z
    obtain ⟨xg, xc⟩ := x
    simp only at hzg h3
    rw [← hzg, h3]
    exact hz
/-- Two rows in order that count alike are one. -/
theorem norm_ext {L M : List Lt} (h1 : Norm L) (h2 : Norm M) (h : ∀ n, posTot L n = posTot M n) : L = M := by
  have hp : L.Perm M := by
    rw [List.perm_ext_iff_of_nodup]
    · intro x
      rw [mem_norm h1, mem_norm h2, h]
    · exact h1.up.imp fun {a b} hab e => by rw [e] at hab; exact List.lt_irrefl _ hab
    · exact h2.up.imp fun {a b} hab e => by rw [e] at hab; exact List.lt_irrefl _ hab
  exact List.Perm.eq_of_pairwise (le := fun a b => bt a.good < bt b.good) (fun a b _ _ h3 h4 => absurd (List.lt_trans h3 h4) (List.lt_irrefl _)) h1.up h2.up hp
/-- One lot more, by the document. -/
def jIns : List Lt → Lt → List Lt
  | [], x => [x]
  | y :: r, x => if bt y.good < bt x.good then y :: jIns r x else if y.good = x.good then ⟨y.good, y.cnt + x.cnt⟩ :: r else x :: y :: r
def joinL (l : List Lt) : List Lt := l.foldl (fun out x => if x.cnt < 1 then out else jIns out x) []
theorem jIns_tot (L : List Lt) (x : Lt) (hx : 0 < x.cnt) (hp : ∀ y ∈ L, 0 < y.cnt) (n : ByteArray) : posTot (jIns L x) n = posTot L n + if x.good = n then x.cnt else 0 := by
  induction L with
  | nil => simp [jIns, posTot, hx]
  | cons y r ih =>
    have hy := hp y List.mem_cons_self
    have hr : ∀ z ∈ r, 0 < z.cnt := fun z hz => hp z (List.mem_cons_of_mem _ hz)
    unfold jIns
    split
    · simp only [posTot, ih hr]; omega
    · split
      · rename_i h
        simp only [posTot, h]
        by_cases hn : x.good = n
        · rw [if_pos ⟨hn, by omega⟩, if_pos ⟨hn, hy⟩, if_pos hn]; omega
        · rw [if_neg (fun h => hn h.1), if_neg (fun h => hn h.1), if_neg hn]; omega
      · simp only [posTot]
        by_cases hn : x.good = n
        · rw [if_pos ⟨hn, hx⟩, if_pos hn]; omega
        · rw [if_neg (fun h => hn h.1), if_neg hn]; omega
theorem jIns_mem {L : List Lt} {x z : Lt} (h : z ∈ jIns L x) : z.good = x.good ∨ ∃ y ∈ L, z.good = y.good := by
  induction L with
  | nil => simp [jIns] at h; exact .inl (by rw [h])
  | cons y r ih =>
    unfold jIns at h
    split at h
    · rcases List.mem_cons.1 h with rfl | h'
      · exact .inr ⟨z, List.mem_cons_self, rfl⟩
      · exact (ih h').imp id fun ⟨w, hw, e⟩ => ⟨w, List.mem_cons_of_mem _ hw, e⟩
    · split at h
      · rcases List.mem_cons.1 h with rfl | h'
        · exact .inr ⟨y, List.mem_cons_self, rfl⟩
        · exact .inr ⟨z, List.mem_cons_of_mem _ h', rfl⟩
      · rcases List.mem_cons.1 h with rfl | h'
        · exact .inl rfl
        · exact .inr ⟨z, h', rfl⟩
theorem bt_cases {a b : ByteArray} (h1 : ¬ bt a < bt b) (h2 : ¬ a = b) : bt b < bt a := by
  rcases List.le_iff_lt_or_eq.1 (List.not_lt.1 h1) with h | h
  · exact h
  · exact absurd (bt_inj h).symm h2
theorem jIns_norm {L : List Lt} {x : Lt} (h : Norm L) (hx : 0 < x.cnt) : Norm (jIns L x) := by
  induction L with
  | nil => exact ⟨by simp [jIns], by simp [jIns, hx]⟩
  | cons y r ih =>
    have hu := List.pairwise_cons.1 h.up
    have hr : Norm r := ⟨hu.2, fun x hx => h.pos x (List.mem_cons_of_mem _ hx)⟩
    have hy := h.pos y List.mem_cons_self
    unfold jIns
    split
    · rename_i h1
      refine ⟨List.pairwise_cons.2 ⟨fun z hz => ?_, (ih hr).up⟩, fun z hz => ?_⟩
      · rcases jIns_mem hz with e | ⟨q, hq, e⟩
        · rw [e]; exact h1
        · rw [e]; exact hu.1 q hq
      · rcases List.mem_cons.1 hz with rfl | hz
        · exact hy
        · exact (ih hr).pos z hz
    · rename_i h1
      split
      · refine ⟨List.pairwise_cons.2 ⟨hu.1, hu.2⟩, fun z hz => ?_⟩
        rcases List.mem_cons.1 hz with rfl | hz
        · show 0 < y.cnt + x.cnt; omega
        · exact hr.pos z hz
      · rename_i h2
        have h3 := bt_cases h1 h2
        refine ⟨List.pairwise_cons.2 ⟨fun z hz => ?_, h.up⟩, fun z hz => ?_⟩
        · rcases List.mem_cons.1 hz with rfl | hz
          · exact h3
          · exact List.lt_trans h3 (hu.1 z hz)
        · rcases List.mem_cons.1 hz with rfl | hz
          · exact hx
          · exact h.pos z hz
theorem joinL_both (l : List Lt) : Norm (joinL l) ∧ ∀ n, posTot (joinL l) n = posTot l n := by
  have : ∀ (l out : List Lt), Norm out → Norm (l.foldl (fun out x => if x.cnt < 1 then out else jIns out x) out) ∧ ∀ n, posTot (l.foldl (fun out x => if x.cnt < 1 then out else jIns out x) out) n = posTot out n + posTot l n := by
    intro l
    induction l with
    | nil => exact fun out h => ⟨h, fun n => by simp [posTot]⟩
    | cons x r ih =>
      intro out h
      rw [List.foldl_cons]
      by_cases hx : x.cnt < 1
      · rw [if_pos hx]
        refine ⟨(ih out h).1, fun n => ?_⟩
        rw [(ih out h).2, posTot, if_neg (fun h => by omega), Int.zero_add]
      · rw [if_neg hx]
        have hx' : 0 < x.cnt := by omega
        have h' := jIns_norm h hx'
        refine ⟨(ih _ h').1, fun n => ?_⟩
        rw [(ih _ h').2, jIns_tot out x hx' h.pos, posTot]
        by_cases hn : x.good = n
        · rw [if_pos hn, if_pos ⟨hn, hx'⟩]; omega
        · rw [if_neg hn, if_neg (fun h => hn h.1)]; omega
  have h := this l [] ⟨by simp, by simp⟩
  exact ⟨h.1, fun n => by rw [joinL, h.2]; simp [posTot]⟩
theorem joinL_norm (l : List Lt) : Norm (joinL l) := (joinL_both l).1
theorem joinL_tot (l : List Lt) (n : ByteArray) : posTot (joinL l) n = posTot l n := (joinL_both l).2 n
/-- What is left of l, when m is taken. -/
def canTake (l m : List Lt) : Prop := ∀ n, posTot m n ≤ posTot l n
def leftL (l m : List Lt) : List Lt := (joinL l).filterMap fun x => if x.cnt - posTot m x.good = 0 then none else some ⟨x.good, x.cnt - posTot m x.good⟩
theorem leftL_norm {l m : List Lt} (h : canTake l m) : Norm (leftL l m) := by
  have hn := joinL_norm l
  refine ⟨?_, fun x hx => ?_⟩
  · rw [leftL, List.pairwise_filterMap]
    refine hn.up.imp fun {a b} hab => ?_
    intro c hc d hd
    split at hc
    · cases hc
    · split at hd
      · cases hd
      · obtain rfl := Option.some.inj hc
        obtain rfl := Option.some.inj hd
        exact hab
  · obtain ⟨y, hy, hyx⟩ := List.mem_filterMap.1 hx
    split at hyx
    · cases hyx
    · rename_i h0
      obtain rfl := Option.some.inj hyx
      have h1 := posTot_of hn hy
      have h2 := h y.good
      rw [joinL_tot] at h1
      show 0 < y.cnt - posTot m y.good
      omega
theorem leftL_tot {l m : List Lt} (h : canTake l m) (n : ByteArray) : posTot (leftL l m) n = posTot l n - posTot m n := by
  have hn := joinL_norm l
  have hl := leftL_norm h
  have h2 := h n
  have h0 := posTot_nonneg m n
  rcases Int.lt_or_le 0 (posTot l n - posTot m n) with h3 | h3
  · have hx : (⟨n, posTot l n⟩ : Lt) ∈ joinL l := (mem_norm hn).2 ⟨by show 0 < posTot l n; omega, joinL_tot l n⟩
    have hz : (⟨n, posTot l n - posTot m n⟩ : Lt) ∈ leftL l m := List.mem_filterMap.2 ⟨_, hx, by
      show (if posTot l n - posTot m n = 0 then none else some (⟨n, posTot l n - posTot m n⟩ : Lt)) = _
      rw [if_neg (by omega)]⟩
    exact posTot_of hl hz
  · have h4 := posTot_nonneg (leftL l m) n
    rcases Int.lt_or_le 0 (posTot (leftL l m) n) with h5 | h5
    · obtain ⟨x, hx, hxn, hxp⟩ := posTot_pos.1 h5
      obtain ⟨y, hy, hyx⟩ := List.mem_filterMap.1 hx
      split at hyx
      · cases hyx
      · obtain rfl := Option.some.inj hyx
        have h6 := posTot_of hn hy
        rw [joinL_tot] at h6
        simp only at hxn hxp
        rw [hxn] at h6 hxp
        omega
    · omega
end Go.Proofs.YtbigoifpfkdkjaaGreatDoor.Sc
namespace Go.Proofs.YtbigoifpfkdkjaaGreatDoor.Sc
open Go Go.RowKit Go.ChangeShapes Go.WideShapes Go.ChangeAt
set_option maxRecDepth 100000

def FewP (w : World) (p : Prop) (e : Ending) (w' : World) : Prop := ∃ b, e = .returned (.bool b) ∧ (b = true → p) ∧ Below w.heap.size w w'
structure LtFew (l : List Lt) : Prop where
  len : l.length ≤ 41
  cnt : ∀ x ∈ l, x.cnt ≤ 1099511627776
  name : ∀ x ∈ l, x.good.size ≤ 60
end Go.Proofs.YtbigoifpfkdkjaaGreatDoor.Sc
