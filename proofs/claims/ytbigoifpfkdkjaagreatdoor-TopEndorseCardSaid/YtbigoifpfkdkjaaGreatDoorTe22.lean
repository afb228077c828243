/- The order of packing; boxes that are a packing; what spoils one: plainly. No program in sight. -/
import Derived.Test.YtbigoifpfkdkjaaGreatDoorTe21
import Derived.Test.YtbigoifpfkdkjaaGreatDoorTe01
import Derived.Test.YtbigoifpfkdkjaaGreatDoorTe17
import Derived.Test.YtbigoifpfkdkjaaGreatDoorTe20
import Derived.Lib.ItoaNum
namespace Go.Proofs.YtbigoifpfkdkjaaGreatDoor.Sc
open Go Go.RowKit
set_option maxRecDepth 100000

structure Bx where
  mark : ByteArray
  kind : Int
  lots : List Lt
def roomW (k : Int) : Int := if k = 0 then 28000 else if k = 1 then 26000 else 0
def roomV (k : Int) : Int := if k = 0 then 33000 else if k = 1 then 67000 else 0
def kindOk (k : Int) : Bool := decide (k = 0) || decide (k = 1)
/-- Do lots go into a box of a kind together? -/
def goP (t : List Gd) (k : Int) (l : List Lt) : Bool :=
  kindOk k && (decide (lotsC t l = 0) && (decide (sumL t Gd.wt l ≤ roomW k) && (decide (sumL t Gd.vol l ≤ roomV k) && (decide (togC t l = 0) && decide ((joinL l).length ≤ 8)))))
theorem lotsC_iff {t : List Gd} {l : List Lt} : lotsC t l = 0 ↔ AllIn t l := ⟨lotsC_ok, lotsC_all⟩
theorem goP_iff {t : List Gd} {k : Int} {l : List Lt} : goP t k l = true ↔ (k = 0 ∨ k = 1) ∧ AllIn t l ∧ sumL t Gd.wt l ≤ roomW k ∧ sumL t Gd.vol l ≤ roomV k ∧ togC t l = 0 ∧ (joinL l).length ≤ 8 := by
  simp only [goP, kindOk, Bool.and_eq_true, Bool.or_eq_true, decide_eq_true_eq, lotsC_iff]
theorem room_le (k : Int) : roomW k ≤ 28000 ∧ roomV k ≤ 67000 := by
  unfold roomW roomV
  split <;> (try split) <;> omega

theorem length_sub {α : Type} [DecidableEq α] : ∀ (a b : List α), a.Nodup → (∀ x ∈ a, x ∈ b) → a.length ≤ b.length
  | [], b, _, _ => Nat.zero_le _
  | x :: a, b, hn, h => by
    have hx := h x List.mem_cons_self
    have h1 := length_sub a (b.erase x) (List.nodup_cons.1 hn).2 (fun y hy => by
      have hyx : y ≠ x := fun e => (List.nodup_cons.1 hn).1 (e ▸ hy)
      exact (List.mem_erase_of_ne hyx).2 (h y (List.mem_cons_of_mem _ hy)))
    rw [List.length_erase_of_mem hx] at h1
    have h2 := List.length_pos_of_mem hx
    rw [List.length_cons]
    omega
theorem joinL_mem {l : List Lt} {n : ByteArray} : n ∈ (joinL l).map Lt.good ↔ 0 < posTot l n := by
  rw [← joinL_tot]
  constructor
  · intro h
    obtain ⟨x, hx, rfl⟩ := List.mem_map.1 h
    exact posTot_pos.2 ⟨x, hx, rfl, (joinL_norm l).pos x hx⟩
  · intro h
    obtain ⟨x, hx, e, -⟩ := posTot_pos.1 h
    exact List.mem_map.2 ⟨x, hx, e⟩
theorem joinL_sub {l m : List Lt} (h : ∀ n, 0 < posTot l n → 0 < posTot m n) : (joinL l).length ≤ (joinL m).length := by
  have := length_sub ((joinL l).map Lt.good) ((joinL m).map Lt.good) (norm_goods (joinL_norm l)) (fun n hn => joinL_mem.2 (h n (joinL_mem.1 hn)))
  simpa using this
/-- Lots that are below others go in, too. -/
theorem goP_mono {t : List Gd} (hok : ∀ g ∈ t, gdOk g = true) {k : Int} {l m : List Lt} (h : goP t k m = true) (hin : AllIn t l) (hw : sumL t Gd.wt l ≤ sumL t Gd.wt m) (hv : sumL t Gd.vol l ≤ sumL t Gd.vol m)
    (hg : ∀ x ∈ l, ∃ y ∈ m, y.good = x.good) : goP t k l = true := by
  obtain ⟨h1, h2, h3, h4, h5, h6⟩ := goP_iff.1 h
  refine goP_iff.2 ⟨h1, hin, Int.le_trans hw h3, Int.le_trans hv h4, tog_zero.2 ⟨hin, ?_⟩, Nat.le_trans (joinL_sub fun n hn => ?_) h6⟩
  · cases ha : apL [] (clsN t l 10) with
    | false => rfl
    | true =>
      have h7 := (tog_zero.1 h5).2
      rw [← apL_lots hin hok] at ha
      rw [← apL_lots h2 hok, ap_mono ?_ ha] at h7
      · cases h7
      · intro a ha'
        obtain ⟨x, hx, rfl⟩ := List.mem_map.1 ha'
        obtain ⟨y, hy, e⟩ := hg x hx
        exact List.mem_map.2 ⟨y, hy, by unfold clsOf; rw [e]⟩
  · obtain ⟨x, hx, e, -⟩ := posTot_pos.1 hn
    obtain ⟨y, hy, e2⟩ := hg x hx
    have := lot_range (h2 y hy).1
    exact posTot_pos.2 ⟨y, hy, e2.trans e, by omega⟩
theorem allIn_append {t : List Gd} {l m : List Lt} : AllIn t (l ++ m) ↔ AllIn t l ∧ AllIn t m := by
  constructor
  · exact fun h => ⟨fun x hx => h x (List.mem_append_left _ hx), fun x hx => h x (List.mem_append_right _ hx)⟩
  · rintro ⟨h1, h2⟩ x hx
    exact (List.mem_append.1 hx).elim (h1 x) (h2 x)
theorem sumL_pos {t : List Gd} {f : Gd → Int} {l : List Lt} (hl : AllIn t l) (hs : SelOk t f) : 0 ≤ sumL t f l := by
  have := sumL_nonneg hl hs l.length
  rwa [List.take_length] at this
theorem tmL_mono {t : List Gd} {f : Gd → Int} {g : ByteArray} {i j : Int} (hs : SelOk t f) (h : i ≤ j) : tmL t f ⟨g, i⟩ ≤ tmL t f ⟨g, j⟩ := by
  unfold tmL
  cases hg : gOf t g with
  | none => exact Int.le_refl _
  | some q => exact Int.mul_le_mul_of_nonneg_right h (by have := (hs q (gOf_mem hg).1).1; omega)
theorem lotOk_less {g : ByteArray} {i j : Int} (h : lotOk ⟨g, j⟩ = true) (h1 : 1 ≤ i) (h2 : i ≤ j) : lotOk ⟨g, i⟩ = true := by
  simp only [lotOk, cntOk, Bool.and_eq_true, decide_eq_true_eq] at *
  exact ⟨h.1, h1, by omega⟩
/-- Fewer pieces go in, too. -/
theorem goP_less {t : List Gd} (hok : ∀ g ∈ t, gdOk g = true) {k : Int} {L : List Lt} {g : ByteArray} {i j : Int} (h : goP t k (L ++ [⟨g, j⟩]) = true) (h1 : 1 ≤ i) (h2 : i ≤ j) : goP t k (L ++ [⟨g, i⟩]) = true := by
  have hin := (goP_iff.1 h).2.1
  obtain ⟨ha, hb⟩ := allIn_append.1 hin
  have hb1 := hb _ List.mem_cons_self
  refine goP_mono hok h (allIn_append.2 ⟨ha, fun x hx => ?_⟩) ?_ ?_ fun x hx => ?_
  · obtain rfl := List.mem_singleton.1 hx
    exact ⟨lotOk_less hb1.1 h1 h2, hb1.2⟩
  · rw [sumL_append, sumL_append]
    have := tmL_mono (g := g) (sel_wt hok) h2
    simp only [sumL]
    omega
  · rw [sumL_append, sumL_append]
    have := tmL_mono (g := g) (sel_vol hok) h2
    simp only [sumL]
    omega
  · rcases List.mem_append.1 hx with h3 | h3
    · exact ⟨x, List.mem_append_left _ h3, rfl⟩
    · obtain rfl := List.mem_singleton.1 h3
      exact ⟨_, List.mem_append_right _ List.mem_cons_self, rfl⟩
/-- What does not go in, doesn't behind more. -/
theorem goP_more {t : List Gd} (hok : ∀ g ∈ t, gdOk g = true) {k : Int} {L M : List Lt} {x : Lt} (h : goP t k (L ++ M ++ [x]) = true) : goP t k (L ++ [x]) = true := by
  have hin := (goP_iff.1 h).2.1
  obtain ⟨ha, hb⟩ := allIn_append.1 hin
  obtain ⟨ha, hc⟩ := allIn_append.1 ha
  refine goP_mono hok h (allIn_append.2 ⟨ha, hb⟩) ?_ ?_ fun y hy => ?_
  · have := sumL_pos hc (sel_wt hok)
    rw [sumL_append, sumL_append, sumL_append]
    omega
  · have := sumL_pos hc (sel_vol hok)
    rw [sumL_append, sumL_append, sumL_append]
    omega
  · rcases List.mem_append.1 hy with h3 | h3
    · exact ⟨y, List.mem_append_left _ (List.mem_append_left _ h3), rfl⟩
    · exact ⟨y, List.mem_append_right _ h3, rfl⟩
/-- A lot, and one piece more of its good. -/
theorem goP_one {t : List Gd} (hok : ∀ g ∈ t, gdOk g = true) {k : Int} {L : List Lt} {g : ByteArray} {n : Int} (hn : 1 ≤ n) (h : goP t k (L ++ [⟨g, n⟩] ++ [⟨g, 1⟩]) = true) : goP t k (L ++ [⟨g, n + 1⟩]) = true := by
  obtain ⟨hk, hin, hw, hv, -⟩ := goP_iff.1 h
  obtain ⟨ha, hb⟩ := allIn_append.1 hin
  obtain ⟨ha, hc⟩ := allIn_append.1 ha
  obtain ⟨hl, q, hq⟩ := hc _ List.mem_cons_self
  have e : ∀ f : Gd → Int, tmL t f ⟨g, n + 1⟩ = tmL t f ⟨g, n⟩ + tmL t f ⟨g, 1⟩ := fun f => by
    unfold tmL
    cases gOf t g with
    | none => rfl
    | some q => exact Int.add_mul _ _ _
  have hs : ∀ f : Gd → Int, sumL t f (L ++ [⟨g, n + 1⟩]) = sumL t f (L ++ [⟨g, n⟩] ++ [⟨g, 1⟩]) := fun f => by
    simp only [sumL_append, sumL, e]
    omega
  have hn2 : n + 1 ≤ 1048576 := by
    have h0 := sumL_pos ha (sel_wt hok)
    have h2 := room_le k
    have h3 := (sel_wt hok q (gOf_mem hq).1).1
    have e0 := hs Gd.wt
    rw [← e0, sumL_append] at hw
    have h4 : sumL t Gd.wt [⟨g, n + 1⟩] = (n + 1) * q.wt := by simp only [sumL, tmL, hq]; omega
    rw [h4] at hw
    have h5 : (n + 1) * 1 ≤ (n + 1) * q.wt := Int.mul_le_mul_of_nonneg_left h3 (by omega)
    omega
  refine goP_mono hok h (allIn_append.2 ⟨ha, fun x hx => ?_⟩) (Int.le_of_eq (hs _)) (Int.le_of_eq (hs _)) fun x hx => ?_
  · obtain rfl := List.mem_singleton.1 hx
    refine ⟨?_, q, hq⟩
    simp only [lotOk, cntOk, Bool.and_eq_true, decide_eq_true_eq] at hl ⊢
    exact ⟨hl.1, by omega, hn2⟩
  · rcases List.mem_append.1 hx with h3 | h3
    · exact ⟨x, List.mem_append_left _ (List.mem_append_left _ h3), rfl⟩
    · obtain rfl := List.mem_singleton.1 h3
      exact ⟨_, List.mem_append_right _ List.mem_cons_self, rfl⟩

/-- The greatest number up to n that may be. -/
def mostP (may : Nat → Bool) : Nat → Nat
  | 0 => 0
  | n + 1 => if may (n + 1) = true then n + 1 else mostP may n
theorem mostP_le (may : Nat → Bool) : ∀ n, mostP may n ≤ n
  | 0 => Nat.le_refl _
  | n + 1 => by
    have := mostP_le may n
    rw [mostP]
    split <;> omega
theorem mostP_may (may : Nat → Bool) : ∀ n, mostP may n = 0 ∨ may (mostP may n) = true
  | 0 => .inl rfl
  | n + 1 => by
    rw [mostP]
    split
    · rename_i h; exact .inr h
    · exact mostP_may may n
theorem mostP_max (may : Nat → Bool) : ∀ n k, mostP may n < k → k ≤ n → may k = false
  | 0, k, h1, h2 => by rw [mostP] at h1; omega
  | n + 1, k, h1, h2 => by
    rw [mostP] at h1
    split at h1
    · omega
    · rename_i h
      rcases Nat.lt_or_eq_of_le h2 with h3 | h3
      · exact mostP_max may n k h1 (by omega)
      · rw [h3]; simpa using h
theorem mostP_eq {may : Nat → Bool} {n m : Nat} (h0 : m ≤ n) (h1 : m = 0 ∨ may m = true) (h2 : ∀ k, m < k → k ≤ n → may k = false) : mostP may n = m := by
  have a1 := mostP_le may n
  have a2 := mostP_may may n
  have a3 := mostP_max may n
  rcases Nat.lt_trichotomy (mostP may n) m with h | h | h
  · have := a3 m h h0
    rcases h1 with h1 | h1
    · omega
    · rw [this] at h1; cases h1
  · exact h
  · have := h2 _ h a1
    rcases a2 with a2 | a2
    · omega
    · rw [this] at a2; cases a2
/-- How many pieces of a good go into a box, at most c. -/
def mayN (t : List Gd) (k : Int) (L : List Lt) (g : ByteArray) (n : Nat) : Bool := goP t k (L ++ [⟨g, (n : Int)⟩])
def fillN (t : List Gd) (k : Int) (L : List Lt) (g : ByteArray) (c : Int) : Nat := mostP (mayN t k L g) c.toNat
theorem fillN_le (t : List Gd) (k : Int) (L : List Lt) (g : ByteArray) (c : Int) : fillN t k L g c ≤ c.toNat := mostP_le _ _
theorem mayN_less {t : List Gd} (hok : ∀ g ∈ t, gdOk g = true) {k : Int} {L : List Lt} {g : ByteArray} {i j : Nat} (h : mayN t k L g j = true) (h1 : 1 ≤ i) (h2 : i ≤ j) : mayN t k L g i = true := goP_less hok h (by omega) (by omega)
theorem fillN_none {t : List Gd} (hok : ∀ g ∈ t, gdOk g = true) {k : Int} {L : List Lt} {g : ByteArray} {c : Int} (h : mayN t k L g 1 = false) : fillN t k L g c = 0 := by
  refine mostP_eq (Nat.zero_le _) (.inl rfl) fun j hj _ => ?_
  cases h1 : mayN t k L g j with
  | false => rfl
  | true => rw [mayN_less hok h1 (Nat.le_refl _) hj] at h; cases h
theorem fillN_zero {t : List Gd} {k : Int} {L : List Lt} {g : ByteArray} {c : Int} (h : c < 1) : fillN t k L g c = 0 := by
  have := fillN_le t k L g c
  omega
theorem fillN_some {t : List Gd} {k : Int} {L : List Lt} {g : ByteArray} {c : Int} (hc : 1 ≤ c) (h : mayN t k L g 1 = true) : 1 ≤ fillN t k L g c := by
  rcases Nat.eq_zero_or_pos (fillN t k L g c) with h1 | h1
  · have := mostP_max (mayN t k L g) c.toNat 1 (by unfold fillN at h1; omega) (by omega)
    rw [h] at this; cases this
  · exact h1
/-- What goes into the boxes that are there. -/
def fillB (t : List Gd) (g : ByteArray) : List Bx → Int → List Bx × Int
  | [], c => ([], c)
  | b :: r, c =>
    let n := fillN t b.kind b.lots g c
    let q := fillB t g r (c - n)
    ((if 0 < n then { b with lots := b.lots ++ [⟨g, (n : Int)⟩] } else b) :: q.1, q.2)
/-- The kind of a new box. -/
def freshK (t : List Gd) (g : ByteArray) (c : Int) : Option Int :=
  if goP t 0 [⟨g, c⟩] = true then some 0 else if goP t 1 [⟨g, 1⟩] = true then some 1 else if goP t 0 [⟨g, 1⟩] = true then some 0 else none
/-- New boxes, as long as pieces are left. -/
def newB (t : List Gd) (g : ByteArray) : Nat → List Bx → Int → Int × List Bx
  | 0, bs, _ => (0, bs)
  | f + 1, bs, c => if c ≤ 0 then (0, bs) else match freshK t g c with
    | none => (12, [])
    | some k => if 64 ≤ bs.length then (7, []) else newB t g f (bs ++ [⟨⟨#[]⟩, k, [⟨g, (fillN t k [] g c : Int)⟩]⟩]) (c - fillN t k [] g c)
def addB (t : List Gd) (x : Lt) (bs : List Bx) : Int × List Bx :=
  newB t x.good (65 - bs.length) (fillB t x.good bs x.cnt).1 (fillB t x.good bs x.cnt).2
def packB (t : List Gd) : List Lt → List Bx → Int × List Bx
  | [], bs => (0, bs)
  | x :: r, bs => if (addB t x bs).1 = 0 then packB t r (addB t x bs).2 else ((addB t x bs).1, [])
theorem fillB_len (t : List Gd) (g : ByteArray) : ∀ (bs : List Bx) (c : Int), (fillB t g bs c).1.length = bs.length
  | [], c => rfl
  | b :: r, c => by simp only [fillB, List.length_cons, fillB_len t g r]
end Go.Proofs.YtbigoifpfkdkjaaGreatDoor.Sc
namespace Go.Proofs.YtbigoifpfkdkjaaGreatDoor.Sc
open Go Go.RowKit
set_option maxRecDepth 100000

def allLots (bs : List Bx) : List Lt := bs.flatMap Bx.lots
theorem allLots_cons (b : Bx) (r : List Bx) : allLots (b :: r) = b.lots ++ allLots r := rfl
theorem allLots_append (a b : List Bx) : allLots (a ++ b) = allLots a ++ allLots b := List.flatMap_append
/-- A box that is packed as it may be, but for its mark; S: the goods that it may have. -/
structure BoxIn (t : List Gd) (S : List ByteArray) (b : Bx) : Prop where
  some : b.lots ≠ []
  go : goP t b.kind b.lots = true
  nodup : (b.lots.map Lt.good).Nodup
  sub : ∀ x ∈ b.lots, x.good ∈ S
/-- No piece of what b' has would go into b. -/
def NoRoom (t : List Gd) (b b' : Bx) : Prop := ∀ x ∈ b'.lots, goP t b.kind (b.lots ++ [⟨x.good, 1⟩]) = false
def Full (t : List Gd) (g : ByteArray) (b : Bx) : Prop := goP t b.kind (b.lots ++ [⟨g, 1⟩]) = false
theorem goP_pos {t : List Gd} {k : Int} {l : List Lt} (h : goP t k l = true) : ∀ x ∈ l, 1 ≤ x.cnt := fun x hx => (lot_range ((goP_iff.1 h).2.1 x hx).1).1
theorem BoxIn.mono {t : List Gd} {S T : List ByteArray} {b : Bx} (h : BoxIn t S b) (hs : ∀ n ∈ S, n ∈ T) : BoxIn t T b := ⟨h.some, h.go, h.nodup, fun x hx => hs _ (h.sub x hx)⟩
theorem posTot_one {g : ByteArray} {c : Int} (h : 0 < c) (n : ByteArray) : posTot [⟨g, c⟩] n = if g = n then c else 0 := by
  simp only [posTot]
  by_cases e : g = n
  · rw [if_pos ⟨e, h⟩, if_pos e]; omega
  · rw [if_neg (fun h => e h.1), if_neg e]; rfl
/-- What holds of the boxes when of good g so many pieces are left, n pieces more than which there were. -/
structure Fit (t : List Gd) (S : List ByteArray) (g : ByteArray) (bs : List Bx) (c : Int) : Prop where
  box : ∀ b ∈ bs, BoxIn t (g :: S) b
  room : bs.Pairwise (NoRoom t)
  full : 0 < c → ∀ b ∈ bs, Full t g b
theorem full_more {t : List Gd} (hok : ∀ g ∈ t, gdOk g = true) {k : Int} {L M : List Lt} {x : Lt} (h : goP t k (L ++ [x]) = false) : goP t k (L ++ M ++ [x]) = false := by
  cases h1 : goP t k (L ++ M ++ [x]) with
  | false => rfl
  | true => rw [goP_more hok h1] at h; cases h
/-- Filled up: a piece more doesn't go in. -/
theorem fill_full {t : List Gd} (hok : ∀ g ∈ t, gdOk g = true) {k : Int} {L : List Lt} {g : ByteArray} {c : Int} (h : 0 < c - fillN t k L g c) : goP t k ((if 0 < fillN t k L g c then L ++ [⟨g, (fillN t k L g c : Int)⟩] else L) ++ [⟨g, 1⟩]) = false := by
  obtain ⟨n, hn⟩ : ∃ n, n = fillN t k L g c := ⟨_, rfl⟩
  have hm := mostP_max (mayN t k L g) c.toNat
  rw [show mostP (mayN t k L g) c.toNat = n from hn.symm] at hm
  rw [← hn] at h ⊢
  have h1 := hm (n + 1) (by omega) (by omega)
  split
  · rename_i h0
    cases h2 : goP t k (L ++ [⟨g, (n : Int)⟩] ++ [⟨g, 1⟩]) with
    | false => rfl
    | true =>
      have h3 := goP_one hok (by omega) h2
      unfold mayN at h1
      rw [show ((n + 1 : Nat) : Int) = (n : Int) + 1 by omega, h3] at h1
      cases h1
  · have : n = 0 := by omega
    subst this
    exact h1
theorem fillB_fit {t : List Gd} (hok : ∀ g ∈ t, gdOk g = true) {g : ByteArray} {S : List ByteArray} (hg : g ∉ S) : ∀ (bs : List Bx) (c : Int), 0 ≤ c → (∀ b ∈ bs, BoxIn t S b) → bs.Pairwise (NoRoom t) →
    0 ≤ (fillB t g bs c).2 ∧ (fillB t g bs c).2 ≤ c ∧ Fit t S g (fillB t g bs c).1 (fillB t g bs c).2 ∧ (∀ n, posTot (allLots (fillB t g bs c).1) n = posTot (allLots bs) n + if g = n then c - (fillB t g bs c).2 else 0) ∧
    (∀ b' ∈ (fillB t g bs c).1, (∃ b ∈ bs, ∃ M, b'.kind = b.kind ∧ b'.lots = b.lots ++ M ∧ ∀ x ∈ M, x.good = g) ∧ (c ≤ 0 → b' ∈ bs))
  | [], c, hc, _, _ => ⟨hc, Int.le_refl _, ⟨by simp [fillB], by simp [fillB], by simp [fillB]⟩, fun n => by simp [fillB, allLots], by simp [fillB]⟩
  | b :: r, c, hc, hb, hr => by
    have hn := fillN_le t b.kind b.lots g c
    have hmay := mostP_may (mayN t b.kind b.lots g) c.toNat
    have hful := @fill_full t hok b.kind b.lots g c
    rw [show mostP (mayN t b.kind b.lots g) c.toNat = fillN t b.kind b.lots g c from rfl] at hmay
    obtain ⟨hr1, hr2⟩ := List.pairwise_cons.1 hr
    have ih := fillB_fit hok hg r (c - fillN t b.kind b.lots g c) (by omega) (fun b hb' => hb b (List.mem_cons_of_mem _ hb')) hr2
    simp only [fillB]
    generalize fillN t b.kind b.lots g c = n at *
    generalize fillB t g r (c - n) = q at *
    obtain ⟨i1, i2, ⟨i3, i4, i5⟩, i6, i7⟩ := ih
    have hb0 := hb b List.mem_cons_self
    obtain ⟨b', hb'⟩ : ∃ b', b' = if 0 < n then { b with lots := b.lots ++ [⟨g, (n : Int)⟩] } else b := ⟨_, rfl⟩
    have hkd : b'.kind = b.kind := by rw [hb']; split <;> rfl
    have hlt : b'.lots = if 0 < n then b.lots ++ [⟨g, (n : Int)⟩] else b.lots := by rw [hb']; split <;> rfl
    have hbox : BoxIn t (g :: S) b' := by
      by_cases h0 : 0 < n
      · rw [if_pos h0] at hlt
        refine ⟨by rw [hlt]; simp, ?_, ?_, fun x hx => ?_⟩
        · rw [hkd, hlt]
          rcases hmay with h1 | h1
          · omega
          · exact h1
        · rw [hlt, List.map_append, List.nodup_append]
          refine ⟨hb0.nodup, by simp, fun a ha d hd => ?_⟩
          obtain ⟨x, hx, rfl⟩ := List.mem_map.1 ha
          simp only [List.map_cons, List.map_nil, List.mem_singleton] at hd
          rw [hd]
          rintro rfl
          exact hg (hb0.sub x hx)
        · rw [hlt] at hx
          rcases List.mem_append.1 hx with h1 | h1
          · exact List.mem_cons_of_mem _ (hb0.sub x h1)
          · rw [List.mem_singleton.1 h1]; exact List.mem_cons_self
      · rw [hb', if_neg h0]
        exact hb0.mono fun n hn => List.mem_cons_of_mem _ hn
    have hnr : ∀ d ∈ q.1, NoRoom t b' d := by
      intro d hd x hx
      obtain ⟨⟨d0, hd0, M, -, hM, hMg⟩, hsame⟩ := i7 d hd
      rw [hkd, hlt]
      have old : ∀ x ∈ d0.lots, goP t b.kind ((if 0 < n then b.lots ++ [⟨g, (n : Int)⟩] else b.lots) ++ [⟨x.good, 1⟩]) = false := fun x hx => by
        have := hr1 d0 hd0 x hx
        split
        · exact full_more hok this
        · exact this
      rw [hM] at hx
      rcases List.mem_append.1 hx with h1 | h1
      · exact old x h1
      · rw [hMg x h1]
        by_cases hc1 : c - n ≤ 0
        · have hd1 := hsame hc1
          have hd2 := hr1 d hd1 x (by rw [hM]; exact hx)
          rw [hMg x h1] at hd2
          split
          · exact full_more hok hd2
          · exact hd2
        · exact hful (by omega)
    rw [← hb']
    refine ⟨i1, by omega, ⟨?_, List.pairwise_cons.2 ⟨hnr, i4⟩, fun hc2 d hd => ?_⟩, fun m => ?_, fun d hd => ?_⟩
    · intro d hd
      rcases List.mem_cons.1 hd with rfl | hd
      · exact hbox
      · exact i3 d hd
    · rcases List.mem_cons.1 hd with rfl | hd
      · unfold Full
        rw [hkd, hlt]
        exact hful (by omega)
      · exact i5 hc2 d hd
    · rw [allLots_cons, allLots_cons, posTot_append, posTot_append, i6 m, hlt]
      split
      · rename_i h0
        rw [posTot_append, posTot_one (by omega)]
        by_cases e : g = m
        · simp only [if_pos e]; omega
        · simp only [if_neg e]; omega
      · have : n = 0 := by omega
        subst this
        by_cases e : g = m
        · simp only [if_pos e]; omega
        · simp only [if_neg e]; omega
    · rcases List.mem_cons.1 hd with e | hd
      · subst e
        refine ⟨⟨b, List.mem_cons_self, if 0 < n then [⟨g, (n : Int)⟩] else [], hkd, ?_, ?_⟩, fun hc3 => ?_⟩
        · rw [hlt]; split <;> simp
        · intro x hx
          split at hx
          · rw [List.mem_singleton.1 hx]
          · cases hx
        · have : n = 0 := by omega
          rw [hb', if_neg (by omega)]
          exact List.mem_cons_self
      · obtain ⟨⟨d0, hd0, h1⟩, h2⟩ := i7 d hd
        exact ⟨⟨d0, List.mem_cons_of_mem _ hd0, h1⟩, fun hc3 => List.mem_cons_of_mem _ (h2 (by omega))⟩
theorem fresh_may {t : List Gd} (hok : ∀ g ∈ t, gdOk g = true) {g : ByteArray} {c k : Int} (hc : 1 ≤ c) (h : freshK t g c = some k) : (k = 0 ∨ k = 1) ∧ mayN t k [] g 1 = true := by
  unfold freshK at h
  split at h
  · rename_i h1
    obtain rfl := Option.some.inj h
    exact ⟨.inl rfl, goP_less (L := []) hok h1 (by omega) (by omega)⟩
  · split at h
    · rename_i h1
      obtain rfl := Option.some.inj h
      exact ⟨.inr rfl, h1⟩
    · split at h
      · rename_i h1
        obtain rfl := Option.some.inj h
        exact ⟨.inl rfl, h1⟩
      · cases h
theorem newB_fit {t : List Gd} (hok : ∀ g ∈ t, gdOk g = true) {g : ByteArray} {S : List ByteArray} : ∀ (f : Nat) (bs : List Bx) (c : Int) (out : List Bx), 65 ≤ f + bs.length → bs.length ≤ 64 → 0 ≤ c → Fit t S g bs c → newB t g f bs c = (0, out) →
    out.length ≤ 64 ∧ (∀ b ∈ out, BoxIn t (g :: S) b) ∧ out.Pairwise (NoRoom t) ∧ ∀ n, posTot (allLots out) n = posTot (allLots bs) n + if g = n then c else 0
  | 0, bs, c, out, hl, hl2, _, _, _ => by omega
  | f + 1, bs, c, out, hl, hl2, hc, hf, h => by
    rw [newB] at h
    split at h
    · rename_i h0
      obtain rfl : bs = out := by simpa using h
      refine ⟨hl2, hf.box, hf.room, fun n => ?_⟩
      split <;> omega
    · rename_i h0
      cases hk : freshK t g c with
      | none => rw [hk] at h; simp at h
      | some k =>
        rw [hk] at h
        simp only at h
        split at h
        · simp at h
        · rename_i h64
          obtain ⟨hkk, hm1⟩ := fresh_may hok (by omega) hk
          have hn1 := fillN_some (c := c) (by omega) hm1
          have hnc := fillN_le t k [] g c
          have hful := @fill_full t hok k [] g c
          have hmay := mostP_may (mayN t k [] g) c.toNat
          rw [show mostP (mayN t k [] g) c.toNat = fillN t k [] g c from rfl] at hmay
          generalize fillN t k [] g c = n at *
          rw [if_pos (by omega)] at hful
          have hfull := hf.full (by omega)
          have ih := newB_fit (S := S) hok f (bs ++ [⟨⟨#[]⟩, k, [⟨g, (n : Int)⟩]⟩]) (c - n) out (by simp; omega) (by simp; omega) (by omega) ⟨?_, ?_, ?_⟩ h
          · obtain ⟨j1, j2, j3, j4⟩ := ih
            refine ⟨j1, j2, j3, fun m => ?_⟩
            rw [j4, allLots_append, posTot_append, show allLots [(⟨⟨#[]⟩, k, [⟨g, (n : Int)⟩]⟩ : Bx)] = [⟨g, (n : Int)⟩] from rfl, posTot_one (by omega)]
            by_cases e : g = m
            · simp only [if_pos e]; omega
            · simp only [if_neg e]; omega
          · intro b hb
            rcases List.mem_append.1 hb with hb | hb
            · exact hf.box b hb
            · obtain rfl := List.mem_singleton.1 hb
              refine ⟨by simp, ?_, by simp, by simp⟩
              rcases hmay with h1 | h1
              · omega
              · exact h1
          · rw [List.pairwise_append]
            refine ⟨hf.room, List.pairwise_singleton _ _, fun b hb d hd x hx => ?_⟩
            obtain rfl := List.mem_singleton.1 hd
            obtain rfl := List.mem_singleton.1 hx
            exact hfull b hb
          · intro hcn b hb
            rcases List.mem_append.1 hb with hb | hb
            · exact hfull b hb
            · obtain rfl := List.mem_singleton.1 hb
              exact hful hcn
theorem addB_fit {t : List Gd} (hok : ∀ g ∈ t, gdOk g = true) {S : List ByteArray} {x : Lt} (hx : 0 ≤ x.cnt) (hg : x.good ∉ S) {bs out : List Bx} (hl : bs.length ≤ 64) (hb : ∀ b ∈ bs, BoxIn t S b) (hr : bs.Pairwise (NoRoom t)) (h : addB t x bs = (0, out)) :
    out.length ≤ 64 ∧ (∀ b ∈ out, BoxIn t (x.good :: S) b) ∧ out.Pairwise (NoRoom t) ∧ ∀ n, posTot (allLots out) n = posTot (allLots bs) n + if x.good = n then x.cnt else 0 := by
  obtain ⟨h1, h2, h3, h4, -⟩ := fillB_fit hok hg bs x.cnt hx hb hr
  have hll := fillB_len t x.good bs x.cnt
  unfold addB at h
  obtain ⟨j1, j2, j3, j4⟩ := newB_fit hok _ _ _ _ (by omega) (by omega) h1 h3 h
  refine ⟨j1, j2, j3, fun n => ?_⟩
  rw [j4, h4]
  by_cases e : x.good = n
  · simp only [if_pos e]; omega
  · simp only [if_neg e]; omega
theorem packB_fit {t : List Gd} (hok : ∀ g ∈ t, gdOk g = true) : ∀ (l : List Lt) (S : List ByteArray) (bs out : List Bx), (l.map Lt.good).Nodup → (∀ x ∈ l, 0 < x.cnt ∧ x.good ∉ S) → bs.length ≤ 64 → (∀ b ∈ bs, BoxIn t S b) → bs.Pairwise (NoRoom t) → packB t l bs = (0, out) →
    out.length ≤ 64 ∧ (∃ T, ∀ b ∈ out, BoxIn t T b) ∧ out.Pairwise (NoRoom t) ∧ ∀ n, posTot (allLots out) n = posTot (allLots bs) n + posTot l n
  | [], S, bs, out, _, _, hl, hb, hr, h => by
    obtain rfl : bs = out := by simpa [packB] using h
    exact ⟨hl, ⟨S, hb⟩, hr, fun n => by simp [posTot]⟩
  | x :: r, S, bs, out, hn, hx, hl, hb, hr, h => by
    rw [packB] at h
    split at h
    · rename_i h0
      simp only [List.map_cons, List.nodup_cons] at hn
      obtain ⟨hx1, hx2⟩ := hx x List.mem_cons_self
      have h1 : addB t x bs = (0, (addB t x bs).2) := by rw [← h0]
      obtain ⟨j1, j2, j3, j4⟩ := addB_fit hok (by omega) hx2 hl hb hr h1
      obtain ⟨k1, k2, k3, k4⟩ := packB_fit hok r (x.good :: S) _ out hn.2 (fun y hy => ⟨(hx y (List.mem_cons_of_mem _ hy)).1, fun hm => by
        rcases List.mem_cons.1 hm with e | hm
        · exact hn.1 (List.mem_map.2 ⟨y, hy, e⟩)
        · exact (hx y (List.mem_cons_of_mem _ hy)).2 hm⟩) j1 j2 j3 h
      refine ⟨k1, k2, k3, fun n => ?_⟩
      rw [k4, j4, posTot]
      by_cases e : x.good = n
      · rw [if_pos e, if_pos ⟨e, hx1⟩]; omega
      · rw [if_neg e, if_neg (fun h => e h.1)]; omega
    · rename_i h0
      exact absurd (congrArg Prod.fst h) h0
end Go.Proofs.YtbigoifpfkdkjaaGreatDoor.Sc
namespace Go.Proofs.YtbigoifpfkdkjaaGreatDoor.Sc
open Go Go.RowKit
set_option maxRecDepth 100000

def txt (l : List UInt8) : ByteArray := ⟨l.toArray⟩
theorem bt_txt (l : List UInt8) : bt (txt l) = l := by simp [bt, txt]
theorem txt_bt (s : ByteArray) : txt (bt s) = s := by
  apply ByteArray.ext
  simp [txt, bt]
theorem txt_append (a b : List UInt8) : txt a ++ txt b = txt (a ++ b) := by
  apply ByteArray.ext
  rw [ByteArray.data_append]
  simp [txt]
theorem bt_append (a b : ByteArray) : bt (a ++ b) = bt a ++ bt b := by
  simp [bt, ByteArray.data_append]
theorem bt_len (s : ByteArray) : (bt s).length = s.size := by rw [bt, Array.length_toList]; rfl
theorem txt_size (l : List UInt8) : (txt l).size = l.length := by simp [txt, ByteArray.size]
theorem txt_inj {a b : List UInt8} (h : txt a = txt b) : a = b := by rw [← bt_txt a, ← bt_txt b, h]
def dg (n : Nat) : UInt8 := UInt8.ofNat (48 + n % 10)
theorem dg_toNat (n : Nat) : (dg n).toNat = 48 + n % 10 := by
  rw [dg, UInt8.toNat_ofNat']
  omega
def preD (n : Nat) : List UInt8 := if n < 10 then [] else Lib.decDigits (n / 10)
theorem dec_pre (n : Nat) : Lib.decDigits n = preD n ++ [dg n] := by
  rw [Lib.decDigits, preD, dg]
  split
  · rw [Nat.mod_eq_of_lt (by assumption)]; rfl
  · rfl
/-- So many digits of a number. -/
def digK : Nat → Nat → List UInt8
  | 0, _ => []
  | k + 1, n => digK k (n / 10) ++ [dg n]
theorem digK_len : ∀ k n, (digK k n).length = k
  | 0, _ => rfl
  | k + 1, n => by rw [digK, List.length_append, digK_len k]; rfl
theorem digK_zero : ∀ k, digK k 0 = List.replicate k 48
  | 0 => rfl
  | k + 1 => by rw [digK, Nat.zero_div, digK_zero k, List.replicate_succ']; rfl
theorem dec_digK : ∀ k n, n < 10 ^ k → 1 ≤ k → (Lib.decDigits n).length ≤ k ∧ List.replicate (k - (Lib.decDigits n).length) 48 ++ Lib.decDigits n = digK k n
  | 0, n, _, h => by omega
  | k + 1, n, h, _ => by
    rw [dec_pre, digK, preD]
    split
    · rename_i h1
      rw [List.nil_append, show n / 10 = 0 by omega, digK_zero]
      exact ⟨by simp, rfl⟩
    · rename_i h1
      have h2 : n / 10 < 10 ^ k := by rw [Nat.pow_succ] at h; omega
      have h3 : 1 ≤ k := by
        rcases Nat.eq_zero_or_pos k with e | e
        · subst e; simp at h; omega
        · exact e
      obtain ⟨h4, h5⟩ := dec_digK k (n / 10) h2 h3
      rw [List.length_append, ← List.append_assoc, ← h5]
      exact ⟨by simpa using h4, by simp [Nat.add_sub_add_right]⟩
theorem digK_inj : ∀ k n m, n < 10 ^ k → m < 10 ^ k → digK k n = digK k m → n = m
  | 0, n, m, h1, h2, _ => by simp at h1 h2; omega
  | k + 1, n, m, h1, h2, h => by
    rw [digK, digK] at h
    obtain ⟨h3, h4⟩ := List.append_inj' h rfl
    rw [Nat.pow_succ] at h1 h2
    have h5 := digK_inj k _ _ (by omega) (by omega) h3
    have h6 : dg n = dg m := by simpa using h4
    have h7 := dg_toNat n
    have h8 := dg_toNat m
    rw [h6] at h7
    omega
theorem digit_dg (n : Nat) : digit ((dg n).toNat : Int) = true := by
  simp only [digit, dg_toNat, Bool.and_eq_true, decide_eq_true_eq]
  omega
theorem digK_digit : ∀ k n, ∀ c ∈ digK k n, digit (c.toNat : Int) = true
  | 0, _, c, h => by cases h
  | k + 1, n, c, h => by
    rw [digK] at h
    rcases List.mem_append.1 h with h | h
    · exact digK_digit k _ c h
    · rw [List.mem_singleton.1 h]; exact digit_dg n
/-- The value of a sign at its place. -/
def signOk (i : Nat) (c : Int) : Bool := if i < 4 then letter c else digit c
def signV (i : Nat) (c : Int) : Int := if i < 4 then c - 96 else c - 48
def chAt (s : List UInt8) (i : Nat) : Int := (((s[i]?).getD 0).toNat : Int)
/-- Are the first n signs what they must be, and their sum. -/
def headN (s : List UInt8) : Nat → Bool
  | 0 => true
  | n + 1 => headN s n && signOk n (chAt s n)
def sumN (s : List UInt8) : Nat → Int
  | 0 => 0
  | n + 1 => sumN s n + signV n (chAt s n) * ((n : Int) + 1)
def headB (s : List UInt8) : Bool := decide (10 ≤ s.length) && headN s 10
def sumM (s : List UInt8) : Int := if headB s = true then sumN s 10 % 97 else -1
def markOk (s : List UInt8) : Bool := decide (s.length = 12) && (headB s && decide (s.drop 10 = digK 2 (sumM s).toNat))
def ownerOk (s : List UInt8) : Bool := decide (s.length = 4) && s.all fun c => letter (c.toNat : Int)
def markB (own : List UInt8) (n : Nat) : List UInt8 := own ++ digK 6 n ++ digK 2 (sumM (own ++ digK 6 n)).toNat
def makeC (own : List UInt8) (n : Int) : Int := if ownerOk own = true then (if 0 ≤ n ∧ n ≤ 999999 then 0 else 3) else 1
theorem chAt_app {a b : List UInt8} {i : Nat} (h : i < a.length) : chAt (a ++ b) i = chAt a i := by rw [chAt, chAt, List.getElem?_append_left h]
theorem headN_app {a b : List UInt8} : ∀ n, n ≤ a.length → headN (a ++ b) n = headN a n
  | 0, _ => rfl
  | n + 1, h => by rw [headN, headN, headN_app n (by omega), chAt_app (by omega)]
theorem sumN_app {a b : List UInt8} : ∀ n, n ≤ a.length → sumN (a ++ b) n = sumN a n
  | 0, _ => rfl
  | n + 1, h => by rw [sumN, sumN, sumN_app n (by omega), chAt_app (by omega)]
theorem sumM_app {a b : List UInt8} (h : a.length = 10) : sumM (a ++ b) = sumM a ∧ headB (a ++ b) = headB a := by
  have e : headB (a ++ b) = headB a := by
    rw [headB, headB, headN_app 10 (by omega), List.length_append, decide_eq_true (by omega), decide_eq_true (by omega)]
  refine ⟨?_, e⟩
  rw [sumM, sumM, e, sumN_app 10 (by omega)]
theorem headN_iff {s : List UInt8} : ∀ n, headN s n = true ↔ ∀ i, i < n → signOk i (chAt s i) = true
  | 0 => by simp [headN]
  | n + 1 => by
    rw [headN, Bool.and_eq_true, headN_iff n]
    constructor
    · rintro ⟨h1, h2⟩ i hi
      rcases Nat.lt_or_eq_of_le (Nat.lt_succ_iff.1 hi) with h | h
      · exact h1 i h
      · rw [h]; exact h2
    · exact fun h => ⟨fun i hi => h i (by omega), h n (by omega)⟩
theorem head_made {own : List UInt8} {n : Nat} (h : ownerOk own = true) : headB (own ++ digK 6 n) = true ∧ (own ++ digK 6 n).length = 10 := by
  simp only [ownerOk, Bool.and_eq_true, decide_eq_true_eq, List.all_eq_true] at h
  obtain ⟨h1, h2⟩ := h
  have hl : (own ++ digK 6 n).length = 10 := by rw [List.length_append, digK_len, h1]
  refine ⟨?_, hl⟩
  rw [headB, Bool.and_eq_true, decide_eq_true_eq]
  refine ⟨by omega, (headN_iff 10).2 fun i hi => ?_⟩
  unfold signOk
  split
  · rename_i h4
    rw [chAt_app (by omega), chAt, List.getElem?_eq_getElem (by omega)]
    exact h2 _ (List.getElem_mem _)
  · rename_i h4
    rw [chAt, List.getElem?_append_right (by omega), List.getElem?_eq_getElem (by rw [digK_len]; omega)]
    exact digK_digit 6 n _ (List.getElem_mem _)
theorem mark_made {own : List UInt8} {n : Nat} (h : ownerOk own = true) : markOk (markB own n) = true := by
  obtain ⟨h1, h2⟩ := head_made (n := n) h
  obtain ⟨h3, h4⟩ := sumM_app (b := digK 2 (sumM (own ++ digK 6 n)).toNat) h2
  rw [markOk, markB, h3, h4, h1, List.length_append, h2, digK_len, List.drop_append_of_le_length (by omega), List.drop_of_length_le (by omega)]
  simp
theorem mark_inj {own : List UInt8} {n m : Nat} (hn : n ≤ 999999) (hm : m ≤ 999999) (h : markB own n = markB own m) : n = m := by
  unfold markB at h
  have h1 := List.append_inj_left h (by simp [digK_len])
  have h2 := List.append_cancel_left h1
  exact digK_inj 6 n m (by omega) (by omega) h2
theorem sumM_range (s : List UInt8) : -1 ≤ sumM s ∧ sumM s < 97 := by
  unfold sumM
  split <;> omega
end Go.Proofs.YtbigoifpfkdkjaaGreatDoor.Sc
namespace Go.Proofs.YtbigoifpfkdkjaaGreatDoor.Sc
open Go Go.RowKit
set_option maxRecDepth 100000

def aheadP (t : List Gd) (a b : Lt) : Bool := match gOf t a.good with
  | none => false
  | some x => match gOf t b.good with
    | none => false
    | some y => if x.vol = y.vol then (if x.wt = y.wt then decide (bt a.good < bt b.good) else decide (y.wt < x.wt)) else decide (y.vol < x.vol)
def insO (t : List Gd) : List Lt → Lt → List Lt
  | [], x => [x]
  | y :: r, x => if aheadP t y x = true then y :: insO t r x else x :: y :: r
def ordL (t : List Gd) (l : List Lt) : List Lt := (joinL l).foldl (insO t) []
theorem ahead_some {t : List Gd} {a b : Lt} {x y : Gd} (hx : gOf t a.good = some x) (hy : gOf t b.good = some y) : aheadP t a b = if x.vol = y.vol then (if x.wt = y.wt then decide (bt a.good < bt b.good) else decide (y.wt < x.wt)) else decide (y.vol < x.vol) := by
  unfold aheadP
  rw [hx, hy]
theorem ahead_in {t : List Gd} {a b : Lt} (h : aheadP t a b = true) : ∃ x y, gOf t a.good = some x ∧ gOf t b.good = some y := by
  unfold aheadP at h
  cases hx : gOf t a.good with
  | none => rw [hx] at h; cases h
  | some x =>
    rw [hx] at h
    cases hy : gOf t b.good with
    | none => rw [hy] at h; cases h
    | some y => exact ⟨x, y, rfl, rfl⟩
theorem ahead_trans (t : List Gd) (a b c : Lt) (h1 : aheadP t a b = true) (h2 : aheadP t b c = true) : aheadP t a c = true := by
  obtain ⟨x, y, hx, hy⟩ := ahead_in h1
  obtain ⟨y', z, hy', hz⟩ := ahead_in h2
  rw [ahead_some hx hy] at h1
  rw [ahead_some hy hz] at h2
  rw [ahead_some hx hz]
  by_cases v1 : x.vol = y.vol
  · rw [if_pos v1] at h1
    by_cases v2 : y.vol = z.vol
    · rw [if_pos v2] at h2
      rw [if_pos (v1.trans v2)]
      by_cases w1 : x.wt = y.wt
      · rw [if_pos w1] at h1
        by_cases w2 : y.wt = z.wt
        · rw [if_pos w2] at h2
          rw [if_pos (w1.trans w2)]
          exact decide_eq_true (List.lt_trans (of_decide_eq_true h1) (of_decide_eq_true h2))
        · rw [if_neg w2] at h2
          have := of_decide_eq_true h2
          rw [if_neg (by omega)]
          exact decide_eq_true (by omega)
      · rw [if_neg w1] at h1
        have a1 := of_decide_eq_true h1
        by_cases w2 : y.wt = z.wt
        · rw [if_neg (by omega)]
          exact decide_eq_true (by omega)
        · rw [if_neg w2] at h2
          have a2 := of_decide_eq_true h2
          rw [if_neg (by omega)]
          exact decide_eq_true (by omega)
    · rw [if_neg v2] at h2
      have := of_decide_eq_true h2
      rw [if_neg (by omega)]
      exact decide_eq_true (by omega)
  · rw [if_neg v1] at h1
    have a1 := of_decide_eq_true h1
    by_cases v2 : y.vol = z.vol
    · rw [if_neg (by omega)]
      exact decide_eq_true (by omega)
    · rw [if_neg v2] at h2
      have a2 := of_decide_eq_true h2
      rw [if_neg (by omega)]
      exact decide_eq_true (by omega)
theorem ahead_total {t : List Gd} {a b : Lt} (ha : ∃ x, gOf t a.good = some x) (hb : ∃ y, gOf t b.good = some y) (hne : a.good ≠ b.good) : aheadP t a b = true ∨ aheadP t b a = true := by
  obtain ⟨x, hx⟩ := ha
  obtain ⟨y, hy⟩ := hb
  rw [ahead_some hx hy, ahead_some hy hx]
  by_cases v : x.vol = y.vol
  · rw [if_pos v, if_pos v.symm]
    by_cases w : x.wt = y.wt
    · rw [if_pos w, if_pos w.symm, decide_eq_true_eq, decide_eq_true_eq]
      by_cases h : bt a.good < bt b.good
      · exact .inl h
      · exact .inr (bt_cases h hne)
    · rw [if_neg w, if_neg (fun e => w e.symm), decide_eq_true_eq, decide_eq_true_eq]
      omega
  · rw [if_neg v, if_neg (fun e => v e.symm), decide_eq_true_eq, decide_eq_true_eq]
    omega
theorem ahead_irrefl (t : List Gd) (a : Lt) : aheadP t a a = false := by
  cases h : aheadP t a a with
  | false => rfl
  | true =>
    obtain ⟨x, y, hx, hy⟩ := ahead_in h
    rw [ahead_some hx hx, if_pos rfl, if_pos rfl, decide_eq_true_eq] at h
    exact absurd h (List.lt_irrefl _)
theorem insO_perm (t : List Gd) (x : Lt) : ∀ l : List Lt, (insO t l x).Perm (x :: l)
  | [] => List.Perm.refl _
  | a :: r => by
    rw [insO]
    split
    · exact ((insO_perm t x r).cons a).trans (List.Perm.swap x a r)
    · exact List.Perm.refl _
theorem foldO_perm (t : List Gd) : ∀ (r P : List Lt), (r.foldl (insO t) P).Perm (r ++ P)
  | [], P => List.Perm.refl _
  | x :: r, P => by
    rw [List.foldl_cons]
    exact (foldO_perm t r (insO t P x)).trans (((insO_perm t x P).append_left r).trans List.perm_middle)
theorem insO_sorted (t : List Gd) (x : Lt) : ∀ l : List Lt, (∀ a ∈ l, aheadP t a x = true ∨ aheadP t x a = true) → l.Pairwise (fun a b => aheadP t a b = true) → (insO t l x).Pairwise (fun a b => aheadP t a b = true)
  | [], _, _ => by simp [insO]
  | a :: r, h, hp => by
    obtain ⟨h1, h2⟩ := List.pairwise_cons.1 hp
    rw [insO]
    split
    · rename_i hx
      refine List.pairwise_cons.2 ⟨fun b hb => ?_, insO_sorted t x r (fun b hb => h b (List.mem_cons_of_mem _ hb)) h2⟩
      rcases List.mem_cons.1 ((insO_perm t x r).mem_iff.1 hb) with rfl | hb
      · exact hx
      · exact h1 b hb
    · rename_i hx
      have hax : aheadP t x a = true := (h a List.mem_cons_self).resolve_left hx
      refine List.pairwise_cons.2 ⟨fun b hb => ?_, hp⟩
      rcases List.mem_cons.1 hb with rfl | hb
      · exact hax
      · exact ahead_trans t _ _ _ hax (h1 b hb)
/-- Lots of goods of the table, each good once. -/
def Diff (t : List Gd) (l : List Lt) : Prop := (l.map Lt.good).Nodup ∧ ∀ x ∈ l, ∃ g, gOf t x.good = some g
theorem foldO_sorted (t : List Gd) : ∀ (r P : List Lt), Diff t (r ++ P) → P.Pairwise (fun a b => aheadP t a b = true) → (r.foldl (insO t) P).Pairwise (fun a b => aheadP t a b = true)
  | [], P, _, hp => hp
  | x :: r, P, hd, hp => by
    rw [List.foldl_cons]
    have hperm : (r ++ insO t P x).Perm (x :: r ++ P) := ((insO_perm t x P).append_left r).trans List.perm_middle
    refine foldO_sorted t r _ ⟨((hperm.map Lt.good).nodup_iff).2 hd.1, fun y hy => hd.2 y (hperm.mem_iff.1 hy)⟩ (insO_sorted t x P (fun a ha => ?_) hp)
    refine ahead_total (hd.2 a (List.mem_append_right _ ha)) (hd.2 x List.mem_cons_self) fun e => ?_
    have h1 := hd.1
    simp only [List.cons_append, List.map_cons, List.nodup_cons, List.map_append, List.mem_append] at h1
    exact h1.1 (.inr (List.mem_map.2 ⟨a, ha, e⟩))
theorem ordL_perm (t : List Gd) (l : List Lt) : (ordL t l).Perm (joinL l) := by
  have := foldO_perm t (joinL l) []
  rwa [List.append_nil] at this
theorem diff_join {t : List Gd} {l : List Lt} (h : AllIn t l) : Diff t (joinL l) := ⟨norm_goods (joinL_norm l), fun x hx => by
  obtain ⟨y, hy, e⟩ := joinL_good hx
  rw [← e]
  exact (h y hy).2⟩
theorem ordL_sorted {t : List Gd} {l : List Lt} (h : AllIn t l) : (ordL t l).Pairwise (fun a b => aheadP t a b = true) := foldO_sorted t (joinL l) [] (by rw [List.append_nil]; exact diff_join h) List.Pairwise.nil
/-- Two rows in order of the same lots are one. -/
theorem ord_ext {t : List Gd} {L M : List Lt} (h1 : L.Pairwise (fun a b => aheadP t a b = true)) (h2 : M.Pairwise (fun a b => aheadP t a b = true)) (hp : L.Perm M) : L = M :=
  List.Perm.eq_of_pairwise (le := fun a b => aheadP t a b = true) (fun a b _ _ h3 h4 => by
    have := ahead_trans t _ _ _ h3 h4
    rw [ahead_irrefl] at this
    cases this) h1 h2 hp
theorem posTot_perm {l m : List Lt} (h : l.Perm m) (n : ByteArray) : posTot l n = posTot m n := by
  induction h with
  | nil => rfl
  | cons x _ ih => simp only [posTot, ih]
  | swap x y l => simp only [posTot]; omega
  | trans _ _ ih1 ih2 => exact ih1.trans ih2
theorem sumL_perm {t : List Gd} {f : Gd → Int} {l m : List Lt} (h : l.Perm m) : sumL t f l = sumL t f m := by
  induction h with
  | nil => rfl
  | cons x _ ih => simp only [sumL, ih]
  | swap x y l => simp only [sumL]; omega
  | trans _ _ ih1 ih2 => exact ih1.trans ih2
theorem joinL_eq {l m : List Lt} : joinL l = joinL m ↔ ∀ n, posTot l n = posTot m n := by
  constructor
  · intro h n
    rw [← joinL_tot, h, joinL_tot]
  · exact fun h => norm_ext (joinL_norm l) (joinL_norm m) fun n => by rw [joinL_tot, joinL_tot, h]

/-- Does a text stand twice? -/
def dupT : List ByteArray → List ByteArray → Bool
  | _, [] => false
  | seen, n :: r => decide (n ∈ seen) || dupT (seen ++ [n]) r
theorem dupT_iff : ∀ (l seen : List ByteArray), seen.Nodup → (dupT seen l = false ↔ (seen ++ l).Nodup)
  | [], seen, hs => by simp [dupT, hs]
  | n :: r, seen, hs => by
    rw [dupT, Bool.or_eq_false_iff, decide_eq_false_iff_not]
    constructor
    · rintro ⟨h1, h2⟩
      have := (dupT_iff r (seen ++ [n]) (List.nodup_append.2 ⟨hs, by simp, fun a ha b hb => by rw [List.mem_singleton.1 hb]; rintro rfl; exact h1 ha⟩)).1 h2
      simpa using this
    · intro h
      have h1 : n ∉ seen := fun hm => (List.nodup_append.1 h).2.2 n hm n List.mem_cons_self rfl
      exact ⟨h1, (dupT_iff r (seen ++ [n]) (List.nodup_append.2 ⟨hs, by simp, fun a ha b hb => by rw [List.mem_singleton.1 hb]; rintro rfl; exact h1 ha⟩)).2 (by simpa using h)⟩
def boxOk (t : List Gd) (b : Bx) : Bool := markOk (bt b.mark) && (decide (0 < b.lots.length) && (goP t b.kind b.lots && !dupT [] (b.lots.map Lt.good)))
def rightF (t : List Gd) : List ByteArray → List Bx → Bool
  | _, [] => true
  | seen, b :: r => !decide (b.mark ∈ seen) && (boxOk t b && rightF t (seen ++ [b.mark]) r)
def rightP (t : List Gd) (bs : List Bx) (lots : List Lt) : Bool := rightF t [] bs && decide (joinL (allLots bs) = joinL lots)
theorem rightF_iff {t : List Gd} : ∀ (bs : List Bx) (seen : List ByteArray), seen.Nodup → (rightF t seen bs = true ↔ (∀ b ∈ bs, boxOk t b = true) ∧ (seen ++ bs.map Bx.mark).Nodup)
  | [], seen, hs => by simp [rightF, hs]
  | b :: r, seen, hs => by
    rw [rightF, Bool.and_eq_true, Bool.and_eq_true, Bool.not_eq_true', decide_eq_false_iff_not]
    constructor
    · rintro ⟨h1, h2, h3⟩
      obtain ⟨h4, h5⟩ := (rightF_iff r (seen ++ [b.mark]) (List.nodup_append.2 ⟨hs, by simp, fun a ha c hc => by rw [List.mem_singleton.1 hc]; rintro rfl; exact h1 ha⟩)).1 h3
      refine ⟨fun d hd => ?_, by simpa using h5⟩
      rcases List.mem_cons.1 hd with rfl | hd
      · exact h2
      · exact h4 d hd
    · rintro ⟨h1, h2⟩
      have h3 : b.mark ∉ seen := fun hm => (List.nodup_append.1 h2).2.2 _ hm b.mark List.mem_cons_self rfl
      exact ⟨h3, h1 b List.mem_cons_self, (rightF_iff r (seen ++ [b.mark]) (List.nodup_append.2 ⟨hs, by simp, fun a ha c hc => by rw [List.mem_singleton.1 hc]; rintro rfl; exact h3 ha⟩)).2 ⟨fun d hd => h1 d (List.mem_cons_of_mem _ hd), by simpa using h2⟩⟩
theorem rightP_iff {t : List Gd} {bs : List Bx} {lots : List Lt} : rightP t bs lots = true ↔ (∀ b ∈ bs, boxOk t b = true) ∧ (bs.map Bx.mark).Nodup ∧ ∀ n, posTot (allLots bs) n = posTot lots n := by
  rw [rightP, Bool.and_eq_true, rightF_iff _ _ List.nodup_nil, decide_eq_true_eq, joinL_eq, List.nil_append, and_assoc]
theorem boxOk_iff {t : List Gd} {b : Bx} : boxOk t b = true ↔ markOk (bt b.mark) = true ∧ b.lots ≠ [] ∧ goP t b.kind b.lots = true ∧ (b.lots.map Lt.good).Nodup := by
  simp only [boxOk, Bool.and_eq_true, decide_eq_true_eq, Bool.not_eq_true']
  rw [dupT_iff _ _ List.nodup_nil, List.nil_append, List.length_pos_iff]

/-- The boxes with their marks. -/
def markAll (own : ByteArray) : Nat → List Bx → List Bx
  | _, [] => []
  | n, b :: r => { b with mark := txt (markB (bt own) n) } :: markAll own (n + 1) r
def sumC (t : List Gd) (f : Gd → Int) (l : List Lt) : Int := if lotsC t l = 0 then (if 1099511627776 < sumL t f l then 3 else 0) else lotsC t l
/-- Into which boxes lots go, or what is wrong. -/
def packR (t : List Gd) (first : Int) (own : ByteArray) (l : List Lt) : Int × List Bx :=
  if makeC (bt own) first = 0 then
    if sumC t Gd.wt l = 0 then
      if sumC t Gd.vol l = 0 then
        if (packB t (ordL t l) []).1 = 0 then
          if (packB t (ordL t l) []).2 ≠ [] ∧ 999999 < first + (packB t (ordL t l) []).2.length - 1 then (3, []) else (0, markAll own first.toNat (packB t (ordL t l) []).2)
        else ((packB t (ordL t l) []).1, [])
      else (sumC t Gd.vol l, [])
    else (sumC t Gd.wt l, [])
  else (makeC (bt own) first, [])
theorem markAll_lots (own : ByteArray) : ∀ (bs : List Bx) (n : Nat), (markAll own n bs).map (fun b => (b.kind, b.lots)) = bs.map fun b => (b.kind, b.lots)
  | [], _ => rfl
  | b :: r, n => by rw [markAll, List.map_cons, List.map_cons, markAll_lots own r]
theorem markAll_len (own : ByteArray) : ∀ (bs : List Bx) (n : Nat), (markAll own n bs).length = bs.length
  | [], _ => rfl
  | b :: r, n => by rw [markAll, List.length_cons, List.length_cons, markAll_len own r]
theorem markAll_at (own : ByteArray) : ∀ (bs : List Bx) (n i : Nat) (h : i < bs.length), (markAll own n bs)[i]'(by rw [markAll_len]; exact h) = { bs[i] with mark := txt (markB (bt own) (n + i)) }
  | b :: r, n, 0, h => rfl
  | b :: r, n, i + 1, h => by
    have := markAll_at own r (n + 1) i (by simpa using h)
    simp only [markAll, List.getElem_cons_succ]
    rw [this, show n + 1 + i = n + (i + 1) by omega]
theorem allLots_markAll (own : ByteArray) : ∀ (bs : List Bx) (n : Nat), allLots (markAll own n bs) = allLots bs
  | [], _ => rfl
  | b :: r, n => by rw [markAll, allLots_cons, allLots_cons, allLots_markAll own r]
theorem sumC_ok {t : List Gd} {f : Gd → Int} {l : List Lt} (h : sumC t f l = 0) : AllIn t l ∧ sumL t f l ≤ 1099511627776 := by
  unfold sumC at h
  split at h
  · rename_i h0
    refine ⟨lotsC_ok h0, ?_⟩
    split at h
    · cases h
    · omega
  · rename_i h0
    exact absurd h h0
/-- What is packed: nothing is left, nothing is there twice, and no room is left ahead. -/
structure Packed (t : List Gd) (first : Int) (own : ByteArray) (l : List Lt) (bs : List Bx) : Prop where
  own : ownerOk (bt own) = true
  lots : AllIn t l
  len : bs.length ≤ 64
  right : rightP t bs l = true
  room : bs.Pairwise (NoRoom t)
theorem packR_packed {t : List Gd} (hok : ∀ g ∈ t, gdOk g = true) {first : Int} {own : ByteArray} {l : List Lt} {bs : List Bx} (h : packR t first own l = (0, bs)) : Packed t first own l bs := by
  unfold packR at h
  split at h
  rotate_left
  · rename_i h0; exact absurd (congrArg Prod.fst h) h0
  rename_i hm
  split at h
  rotate_left
  · rename_i h0; exact absurd (congrArg Prod.fst h) h0
  rename_i hs1
  split at h
  rotate_left
  · rename_i h0; exact absurd (congrArg Prod.fst h) h0
  rename_i hs2
  split at h
  rotate_left
  · rename_i h0; exact absurd (congrArg Prod.fst h) h0
  rename_i hp
  split at h
  · have h3 : (3 : Int) = 0 := congrArg Prod.fst h
    cases h3
  rename_i hr
  obtain rfl : markAll own first.toNat (packB t (ordL t l) []).2 = bs := congrArg Prod.snd h
  have hp' : packB t (ordL t l) [] = (0, (packB t (ordL t l) []).2) := by rw [← hp]
  obtain ⟨hown, hfirst⟩ : ownerOk (bt own) = true ∧ 0 ≤ first ∧ first ≤ 999999 := by
    unfold makeC at hm
    split at hm
    · rename_i h1
      split at hm
      · rename_i h2; exact ⟨h1, h2⟩
      · cases hm
    · cases hm
  have hin := (sumC_ok hs1).1
  have hdj := diff_join hin
  have hop := ordL_perm t l
  obtain ⟨k1, ⟨T, k2⟩, k3, k4⟩ := packB_fit hok (ordL t l) [] [] _ (((hop.map Lt.good).nodup_iff).2 hdj.1) (fun x hx => ⟨(joinL_norm l).pos x (hop.mem_iff.1 hx), by simp⟩) (by simp) (by simp) List.Pairwise.nil hp'
  generalize (packB t (ordL t l) []).2 = out at *
  refine ⟨hown, hin, by rw [markAll_len]; exact k1, rightP_iff.2 ⟨fun b hb => ?_, ?_, fun n => ?_⟩, ?_⟩
  · obtain ⟨i, hi, rfl⟩ := List.getElem_of_mem hb
    rw [markAll_len] at hi
    rw [markAll_at own out _ i hi]
    have := k2 _ (List.getElem_mem hi)
    refine boxOk_iff.2 ⟨?_, this.some, this.go, this.nodup⟩
    simp only [bt_txt]
    exact mark_made hown
  · rw [List.Nodup, List.pairwise_iff_getElem]
    intro i j hi hj hij e
    rw [List.length_map, markAll_len] at hi hj
    rw [List.getElem_map, List.getElem_map, markAll_at own out _ i hi, markAll_at own out _ j hj] at e
    have e2 := txt_inj e
    have hne : out ≠ [] := fun e => by rw [e] at hi; cases hi
    have hle : first + out.length - 1 ≤ 999999 := by
      rcases Int.lt_or_le 999999 (first + out.length - 1) with h1 | h1
      · exact absurd ⟨hne, h1⟩ hr
      · exact h1
    have := mark_inj (by omega) (by omega) e2
    omega
  · rw [allLots_markAll, k4, posTot_perm hop, joinL_tot]
    simp [allLots, posTot]
  · rw [List.pairwise_iff_getElem] at k3 ⊢
    intro i j hi hj hij x hx
    rw [markAll_len] at hi hj
    rw [markAll_at own out _ j hj] at hx
    rw [markAll_at own out _ i hi]
    exact k3 i j hi hj hij x hx
/-- The order of the lots is nothing. -/
theorem packR_rev {t : List Gd} {first : Int} {own : ByteArray} {l m : List Lt} {bs : List Bx} (hp : m.Perm l) (h : packR t first own l = (0, bs)) : packR t first own m = (0, bs) := by
  have hin : ∀ f, sumC t f l = 0 → sumC t f m = 0 := fun f h => by
    obtain ⟨h1, h2⟩ := sumC_ok h
    have h3 : AllIn t m := fun x hx => h1 x (hp.mem_iff.1 hx)
    rw [sumC, if_pos (lotsC_all h3), sumL_perm hp, if_neg (by omega)]
  have ho : ordL t m = ordL t l := by rw [ordL, joinL_eq.2 (posTot_perm hp)]; rfl
  unfold packR at h ⊢
  rw [ho]
  split at h
  rotate_left
  · rename_i h0; exact absurd (congrArg Prod.fst h) h0
  rename_i hm
  split at h
  rotate_left
  · rename_i h0; exact absurd (congrArg Prod.fst h) h0
  rename_i hs1
  split at h
  rotate_left
  · rename_i h0; exact absurd (congrArg Prod.fst h) h0
  rename_i hs2
  rw [if_pos hm, if_pos (hin _ hs1), if_pos (hin _ hs2)]
  exact h
/-- A box's first lot, with another number of pieces. -/
theorem spoil_cnt {t : List Gd} {A B : List Bx} {b : Bx} {lots : List Lt} (h : rightP t (A ++ b :: B) lots = true) {x : Lt} {r : List Lt} (hx : b.lots = x :: r) {c : Int} (hc : c ≠ x.cnt) : rightP t (A ++ ⟨b.mark, b.kind, ⟨x.good, c⟩ :: r⟩ :: B) lots = false := by
  obtain ⟨h1, h2, h3⟩ := rightP_iff.1 h
  cases hq : rightP t (A ++ ⟨b.mark, b.kind, ⟨x.good, c⟩ :: r⟩ :: B) lots with
  | false => rfl
  | true =>
    exfalso
    obtain ⟨q1, q2, q3⟩ := rightP_iff.1 hq
    have p1 := (lot_range ((goP_iff.1 (boxOk_iff.1 (h1 b (List.mem_append_right _ List.mem_cons_self))).2.2.1).2.1 x (by rw [hx]; exact List.mem_cons_self)).1).1
    have p2 := (lot_range ((goP_iff.1 (boxOk_iff.1 (q1 _ (List.mem_append_right _ List.mem_cons_self))).2.2.1).2.1 ⟨x.good, c⟩ List.mem_cons_self).1).1
    have p3 := (h3 x.good).trans (q3 x.good).symm
    rw [allLots_append, allLots_append, allLots_cons, allLots_cons, hx] at p3
    simp only [posTot_append, posTot, true_and] at p3
    simp only at p2
    rw [if_pos (by omega), if_pos (by omega)] at p3
    omega
theorem spoil_dup {t : List Gd} {bs : List Bx} {lots : List Lt} {k : Nat} (hk : k < bs.length) : rightP t (bs ++ [bs[k]]) lots = false := by
  cases hq : rightP t (bs ++ [bs[k]]) lots with
  | false => rfl
  | true =>
    exfalso
    obtain ⟨-, q2, -⟩ := rightP_iff.1 hq
    rw [List.map_append, List.nodup_append] at q2
    exact q2.2.2 bs[k].mark (List.mem_map.2 ⟨_, List.getElem_mem hk, rfl⟩) _ (by simp) rfl
end Go.Proofs.YtbigoifpfkdkjaaGreatDoor.Sc
