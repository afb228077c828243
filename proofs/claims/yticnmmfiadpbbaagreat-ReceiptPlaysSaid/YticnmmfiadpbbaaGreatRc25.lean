/- A warehouse's receipts: what each call does, plainly. -/
import Derived.Test.YticnmmfiadpbbaaGreatLot11
import Derived.Test.YticnmmfiadpbbaaGreatChars
namespace Go.Proofs.YticnmmfiadpbbaaGreat.Sc
open Go Go.RowKit
set_option maxRecDepth 100000

structure Rc where
  num : ByteArray
  house : ByteArray
  hold : ByteArray
  lots : List Lt
  day : Int
structure Hs where
  name : ByteArray
  L : List Rc
  used : List ByteArray
def lotOk (x : Lt) : Bool := nameOk x.good && (decide (1 ≤ x.cnt) && decide (x.cnt ≤ 1048576))
def lotsOk (l : List Lt) : Bool := l.all lotOk && decide (0 < l.length)
def strLtB (a b : ByteArray) : Bool := Op.bytesLess a.toList b.toList
theorem strLt_eq (a b : ByteArray) : strLtB a b = decide (bt a < bt b) := by unfold strLtB; rw [bytesLess_eq, ByteArray.toList_eq, ByteArray.toList_eq]; rfl
/-- A receipt, by its number. -/
def rput : List Rc → Rc → List Rc
  | [], x => [x]
  | a :: r, x => if strLtB x.num a.num = true then x :: a :: r else a :: rput r x
def rdel (l : List Rc) (n : ByteArray) : List Rc := l.filter fun r => !decide (r.num = n)
def rfind : List Rc → ByteArray → Option Rc
  | [], _ => none
  | a :: r, n => if a.num = n then some a else rfind r n
def ltSame (x y : Lt) : Bool := decide (x.good = y.good) && decide (x.cnt = y.cnt)
def sameL : List Lt → List Lt → Bool
  | [], [] => true
  | a :: r, b :: s => ltSame a b && sameL r s
  | _, _ => false
theorem ltSame_iff (x y : Lt) : ltSame x y = true ↔ x = y := by
  cases x; cases y
  simp [ltSame]
theorem sameL_iff : ∀ (a b : List Lt), sameL a b = true ↔ a = b
  | [], [] => by simp [sameL]
  | [], b :: s => by simp [sameL]
  | a :: r, [] => by simp [sameL]
  | a :: r, b :: s => by simp [sameL, ltSame_iff, sameL_iff r s]
def leB (l m : List Lt) : Bool := (joinL m).all fun x => decide (x.cnt ≤ posTot l x.good)
theorem leB_iff (l m : List Lt) : leB l m = true ↔ canTake l m := by
  unfold leB canTake
  rw [List.all_eq_true]
  constructor
  · intro h n
    have h0 := posTot_nonneg l n
    rcases Int.lt_or_le 0 (posTot m n) with h1 | h1
    · have hx : (⟨n, posTot m n⟩ : Lt) ∈ joinL m := (mem_norm (joinL_norm m)).2 ⟨h1, joinL_tot m n⟩
      have h2 := h _ hx
      rw [decide_eq_true_eq] at h2
      exact h2
    · omega
  · intro h x hx
    have h1 := posTot_of (joinL_norm m) hx
    rw [joinL_tot] at h1
    have h2 := h x.good
    rw [decide_eq_true_eq]
    omega

def memB (n : ByteArray) (l : List ByteArray) : Bool := l.any fun x => decide (x = n)
theorem memB_iff {n : ByteArray} {l : List ByteArray} : memB n l = true ↔ n ∈ l := by simp [memB]
theorem memB_no {n : ByteArray} {l : List ByteArray} : memB n l = false ↔ n ∉ l := by rw [← memB_iff]; simp
def storeC (h : Hs) (n who : ByteArray) (d : Int) (l : List Lt) : Int :=
  if (nameOk n && (nameOk who && lotsOk l)) = false then 1 else if (decide (0 ≤ d) && decide (d ≤ 1048576)) = false then 3
  else if memB n h.used = true then 5 else if (decide (4096 ≤ h.used.length) || decide (64 < l.length)) = true then 7 else 0
def storeH (h : Hs) (n who : ByteArray) (d : Int) (l : List Lt) : Hs :=
  if storeC h n who d l = 0 then ⟨h.name, rput h.L ⟨n, h.name, who, joinL l, d⟩, h.used ++ [n]⟩ else h
def ownC (h : Hs) (n b : ByteArray) : Int := match rfind h.L n with
  | none => 4
  | some r => if r.hold = b then 0 else 8
def passC (h : Hs) (n b to' : ByteArray) : Int := if ownC h n b = 0 then (if (!nameOk to' || decide (to' = b)) = true then 1 else 0) else ownC h n b
def passH (h : Hs) (n b to' : ByteArray) : Hs := if passC h n b to' = 0 then (match rfind h.L n with
  | none => h
  | some r => ⟨h.name, rput (rdel h.L n) ⟨r.num, r.house, to', r.lots, r.day⟩, h.used⟩) else h
def numsFrom (seen : List ByteArray) : List ByteArray → Bool
  | [] => true
  | n :: r => nameOk n && (!memB n seen && numsFrom (seen ++ [n]) r)
def numsOk (ns : List ByteArray) : Bool := numsFrom [] ns
def partArg (ns : List ByteArray) (ps : List (List Lt)) : Bool := decide (ps.length < 2) || (!decide (ns.length = ps.length) || (!numsOk ns || ps.any fun p => !lotsOk p))
def partFull (h : Hs) (ps : List (List Lt)) : Bool := decide (64 < ps.length) || (decide (4096 < h.used.length + ps.length) || ps.any fun p => decide (64 < p.length))
def partR (h : Hs) (lots : List Lt) (ns : List ByteArray) (ps : List (List Lt)) : Int :=
  if partArg ns ps = true then 1 else if partFull h ps = true then 7 else if (ns.any fun n => memB n h.used) = true then 5 else if sameL (joinL ps.flatten) lots = true then 0 else 2
def partC (h : Hs) (n b : ByteArray) (ns : List ByteArray) (ps : List (List Lt)) : Int := match rfind h.L n with
  | none => 4
  | some r => if r.hold = b then partR h r.lots ns ps else 8
/-- All parts, one by one. -/
def partsL (name b : ByteArray) (day : Int) : List Rc → List ByteArray → List (List Lt) → List Rc
  | L, n :: ns, p :: ps => partsL name b day (rput L ⟨n, name, b, joinL p, day⟩) ns ps
  | L, _, _ => L
def partH (h : Hs) (n b : ByteArray) (ns : List ByteArray) (ps : List (List Lt)) : Hs := if partC h n b ns ps = 0 then (match rfind h.L n with
  | none => h
  | some r => ⟨h.name, partsL h.name b r.day (rdel h.L n) ns ps, h.used ++ ns⟩) else h
def outR (lots l : List Lt) : Int := if lotsOk l = false then 1 else if decide (64 < l.length) = true then 7 else if leB lots l = true then 0 else 10
def outC (h : Hs) (n b : ByteArray) (l : List Lt) : Int := match rfind h.L n with
  | none => 4
  | some r => if r.hold = b then outR r.lots l else 8
def outH (h : Hs) (n b : ByteArray) (l : List Lt) : Hs := if outC h n b l = 0 then (match rfind h.L n with
  | none => h
  | some r => ⟨h.name, if (leftL r.lots l).length = 0 then rdel h.L n else rput (rdel h.L n) ⟨r.num, r.house, r.hold, leftL r.lots l, r.day⟩, h.used⟩) else h
def allL (L : List Rc) : List Lt := L.flatMap Rc.lots
def stockL (h : Hs) : List Lt := joinL (allL h.L)
def totC (l : List Lt) : Int := (l.map Lt.cnt).sum
def chargeT (r : Rc) (d : Int) : Int := totC r.lots * (d - r.day)
def chargeC (h : Hs) (n : ByteArray) (d p : Int) : Int × Int := match rfind h.L n with
  | none => (0, 4)
  | some r => if (decide (d < r.day) || (decide (1048576 < d) || (decide (p < 0) || decide (1099511627776 < p)))) = true then (0, 3)
    else if 1099511627776 < chargeT r d * p then (0, 3) else (chargeT r d * p, 0)
structure Rop where
  kind : Int
  num : ByteArray
  by' : ByteArray
  to' : ByteArray
  day : Int
  lots : List Lt
  nums : List ByteArray
  parts : List (List Lt)
def opC (h : Hs) (o : Rop) : Int := if o.kind = 1 then storeC h o.num o.by' o.day o.lots else if o.kind = 2 then passC h o.num o.by' o.to' else if o.kind = 3 then partC h o.num o.by' o.nums o.parts
  else if o.kind = 4 then outC h o.num o.by' o.lots else 0
def opH (h : Hs) (o : Rop) : Hs := if o.kind = 1 then storeH h o.num o.by' o.day o.lots else if o.kind = 2 then passH h o.num o.by' o.to' else if o.kind = 3 then partH h o.num o.by' o.nums o.parts
  else if o.kind = 4 then outH h o.num o.by' o.lots else h
def playH (h : Hs) (l : List Rop) : Hs := l.foldl opH h

/-! what holds of a house -/
structure RcOk (r : Rc) : Prop where
  num : nameOk r.num = true
  norm : Norm r.lots
  len : r.lots.length ≤ 64
  cnt : totC r.lots ≤ 67108864
  day : 0 ≤ r.day ∧ r.day ≤ 1048576
structure HsOk (k : Nat) (h : Hs) : Prop where
  up : h.L.Pairwise fun a b => bt a.num < bt b.num
  all : ∀ r ∈ h.L, RcOk r
  inn : ∀ r ∈ h.L, r.num ∈ h.used
  nd : h.used.Nodup
  nm : ∀ n ∈ h.used, nameOk n = true
  len : h.L.length ≤ 64 * k
  ul : h.used.length ≤ 64 * k
theorem hsOk_nil (name : ByteArray) : HsOk 0 ⟨name, [], []⟩ := ⟨List.Pairwise.nil, by simp, by simp, List.nodup_nil, by simp, by simp, by simp⟩
theorem HsOk.mono {k k' : Nat} {h : Hs} (o : HsOk k h) (hk : k ≤ k') : HsOk k' h := ⟨o.up, o.all, o.inn, o.nd, o.nm, by have := o.len; omega, by have := o.ul; omega⟩
theorem totC_app (l m : List Lt) : totC (l ++ m) = totC l + totC m := by simp [totC]
theorem totC_cons (x : Lt) (l : List Lt) : totC (x :: l) = x.cnt + totC l := by simp [totC]
theorem totC_pos {l : List Lt} (h : ∀ x ∈ l, 0 < x.cnt) : 0 ≤ totC l := by
  induction l with
  | nil => simp [totC]
  | cons x r ih =>
    have := ih fun y hy => h y (List.mem_cons_of_mem _ hy)
    have := h x List.mem_cons_self
    rw [totC_cons]; omega
theorem posTot_totC {l : List Lt} (h : ∀ x ∈ l, 0 < x.cnt) (n : ByteArray) : posTot l n ≤ totC l := by
  induction l with
  | nil => simp [totC, posTot]
  | cons x r ih =>
    have h1 := ih fun y hy => h y (List.mem_cons_of_mem _ hy)
    have h2 := h x List.mem_cons_self
    rw [totC_cons, posTot]
    split <;> omega
theorem jIns_totC (L : List Lt) (x : Lt) : totC (jIns L x) = totC L + x.cnt := by
  induction L with
  | nil => simp [jIns, totC]
  | cons a r ih =>
    unfold jIns
    repeat' split
    all_goals simp only [totC_cons, ih]
    all_goals omega
theorem joinL_totC {l : List Lt} (h : ∀ x ∈ l, 0 < x.cnt) : totC (joinL l) = totC l := by
  have : ∀ (l out : List Lt), (∀ x ∈ l, 0 < x.cnt) → totC (l.foldl (fun out x => if x.cnt < 1 then out else jIns out x) out) = totC out + totC l := by
    intro l
    induction l with
    | nil => intro out _; simp [totC]
    | cons x r ih =>
      intro out h
      have h1 := h x List.mem_cons_self
      rw [List.foldl_cons, if_neg (by omega), ih _ (fun y hy => h y (List.mem_cons_of_mem _ hy)), jIns_totC, totC_cons]
      omega
  rw [joinL, this l [] h]
  simp [totC]
theorem lotsOk_pos {l : List Lt} (h : lotsOk l = true) : ∀ x ∈ l, 0 < x.cnt := by
  intro x hx
  simp only [lotsOk, Bool.and_eq_true, List.all_eq_true] at h
  have := h.1 x hx
  simp only [lotOk, Bool.and_eq_true, decide_eq_true_eq] at this
  omega
theorem lotsOk_max {l : List Lt} (h : lotsOk l = true) : totC l ≤ 1048576 * l.length := by
  simp only [lotsOk, Bool.and_eq_true, List.all_eq_true] at h
  have h1 := h.1
  clear h
  induction l with
  | nil => simp [totC]
  | cons x r ih =>
    have h2 := ih fun y hy => h1 y (List.mem_cons_of_mem _ hy)
    have h3 := h1 x List.mem_cons_self
    simp only [lotOk, Bool.and_eq_true, decide_eq_true_eq] at h3
    rw [totC_cons, List.length_cons]
    omega
theorem jIns_length' (L : List Lt) (x : Lt) : (jIns L x).length ≤ L.length + 1 := by
  induction L with
  | nil => simp [jIns]
  | cons a r ih =>
    unfold jIns
    repeat' split
    all_goals simp only [List.length_cons]
    all_goals omega
theorem joinL_length' (l : List Lt) : (joinL l).length ≤ l.length := by
  have : ∀ (l out : List Lt), (l.foldl (fun out x => if x.cnt < 1 then out else jIns out x) out).length ≤ out.length + l.length := by
    intro l
    induction l with
    | nil => intro out; simp
    | cons x r ih =>
      intro out
      rw [List.foldl_cons]
      have h1 := ih (if x.cnt < 1 then out else jIns out x)
      have h2 := jIns_length' out x
      simp only [List.length_cons]
      split at h1 <;> rename_i h3
      · rw [if_pos h3]; omega
      · rw [if_neg h3]; omega
  have := this l []
  simpa [joinL] using this
theorem rcOk_new {n name who : ByteArray} {l : List Lt} {d : Int} (h1 : nameOk n = true) (h2 : lotsOk l = true) (h3 : l.length ≤ 64) (h4 : 0 ≤ d ∧ d ≤ 1048576) : RcOk ⟨n, name, who, joinL l, d⟩ :=
  ⟨h1, joinL_norm l, Nat.le_trans (joinL_length' l) h3, by
    show totC (joinL l) ≤ 67108864
    rw [joinL_totC (lotsOk_pos h2)]
    have := lotsOk_max h2
    omega, h4⟩
theorem mem_rput {x r : Rc} : ∀ {l : List Rc}, r ∈ rput l x ↔ r = x ∨ r ∈ l
  | [] => by simp [rput]
  | a :: l => by
    rw [rput]
    split
    · simp [List.mem_cons]
    · rw [List.mem_cons, mem_rput, List.mem_cons]
      constructor
      · rintro (h | h | h)
        · exact .inr (.inl h)
        · exact .inl h
        · exact .inr (.inr h)
      · rintro (h | h | h)
        · exact .inr (.inl h)
        · exact .inl h
        · exact .inr (.inr h)
theorem rput_length (l : List Rc) (x : Rc) : (rput l x).length = l.length + 1 := by
  induction l with
  | nil => rfl
  | cons a r ih =>
    rw [rput]
    split <;> simp_all
theorem rput_tot (l : List Rc) (x : Rc) (n : ByteArray) : posTot (allL (rput l x)) n = posTot x.lots n + posTot (allL l) n := by
  induction l with
  | nil => simp [rput, allL, posTot]
  | cons a r ih =>
    rw [rput]
    split
    · simp [allL, posTot_append]
    · simp only [allL, List.flatMap_cons, posTot_append] at ih ⊢
      rw [ih]; omega
theorem rput_up {l : List Rc} {x : Rc} (h : l.Pairwise fun a b => bt a.num < bt b.num) (hx : ∀ r ∈ l, r.num ≠ x.num) : (rput l x).Pairwise fun a b => bt a.num < bt b.num := by
  induction l with
  | nil => simp [rput]
  | cons a r ih =>
    have hu := List.pairwise_cons.1 h
    rw [rput, strLt_eq]
    by_cases h1 : bt x.num < bt a.num
    · rw [if_pos (decide_eq_true h1)]
      refine List.pairwise_cons.2 ⟨fun z hz => ?_, h⟩
      rcases List.mem_cons.1 hz with rfl | hz
      · exact h1
      · exact List.lt_trans h1 (hu.1 z hz)
    · rw [if_neg (by simpa using h1)]
      refine List.pairwise_cons.2 ⟨fun z hz => ?_, ih hu.2 fun z hz => hx z (List.mem_cons_of_mem _ hz)⟩
      rcases mem_rput.1 hz with rfl | hz
      · exact bt_cases h1 (fun e => hx a List.mem_cons_self e.symm)
      · exact hu.1 z hz
theorem mem_rdel {l : List Rc} {n : ByteArray} {r : Rc} : r ∈ rdel l n ↔ r ∈ l ∧ r.num ≠ n := by simp [rdel]
theorem rdel_none {l : List Rc} {n : ByteArray} (h : ∀ r ∈ l, r.num ≠ n) : rdel l n = l := List.filter_eq_self.2 fun r hr => by simp [h r hr]
theorem rfind_some {l : List Rc} {n : ByteArray} {r : Rc} (h : rfind l n = some r) : r ∈ l ∧ r.num = n := by
  induction l with
  | nil => cases h
  | cons a s ih =>
    rw [rfind] at h
    split at h
    · rename_i h1
      obtain rfl := Option.some.inj h
      exact ⟨List.mem_cons_self, h1⟩
    · exact ⟨List.mem_cons_of_mem _ (ih h).1, (ih h).2⟩
theorem rfind_none {l : List Rc} {n : ByteArray} (h : rfind l n = none) : ∀ r ∈ l, r.num ≠ n := by
  induction l with
  | nil => simp
  | cons a s ih =>
    rw [rfind] at h
    split at h
    · cases h
    · rename_i h1
      intro r hr
      rcases List.mem_cons.1 hr with rfl | hr
      · exact h1
      · exact ih h r hr
theorem rfind_mem {l : List Rc} (hu : l.Pairwise fun a b => bt a.num < bt b.num) {r : Rc} (h : r ∈ l) : rfind l r.num = some r := by
  induction l with
  | nil => cases h
  | cons a s ih =>
    have h1 := List.pairwise_cons.1 hu
    rw [rfind]
    rcases List.mem_cons.1 h with rfl | h
    · rw [if_pos rfl]
    · rw [if_neg, ih h1.2 h]
      intro e
      have := h1.1 r h
      rw [e] at this
      exact List.lt_irrefl _ this
theorem rdel_tot {l : List Rc} (hu : l.Pairwise fun a b => bt a.num < bt b.num) {n : ByteArray} {r : Rc} (h : rfind l n = some r) (g : ByteArray) : posTot (allL l) g = posTot r.lots g + posTot (allL (rdel l n)) g := by
  induction l with
  | nil => cases h
  | cons a s ih =>
    have h1 := List.pairwise_cons.1 hu
    rw [rfind] at h
    split at h
    · rename_i h2
      obtain rfl := Option.some.inj h
      have : rdel (a :: s) n = s := by
        rw [rdel, List.filter_cons_of_neg (by simp [h2])]
        refine rdel_none fun x hx e => ?_
        have := h1.1 x hx
        rw [h2, e] at this
        exact List.lt_irrefl _ this
      rw [this]
      simp [allL, posTot_append]
    · rename_i h2
      have : rdel (a :: s) n = a :: rdel s n := by rw [rdel, List.filter_cons_of_pos (by simp [h2])]; rfl
      rw [this]
      have := ih h1.2 h
      simp only [allL, List.flatMap_cons, posTot_append] at this ⊢
      omega
theorem rdel_up {l : List Rc} (hu : l.Pairwise fun a b => bt a.num < bt b.num) (n : ByteArray) : (rdel l n).Pairwise fun a b => bt a.num < bt b.num := hu.filter _
theorem rdel_length {l : List Rc} {n : ByteArray} : (rdel l n).length ≤ l.length := List.length_filter_le _ _
theorem rdel_lt {l : List Rc} {n : ByteArray} {r : Rc} (h : rfind l n = some r) : (rdel l n).length < l.length := by
  rcases Nat.lt_or_ge (rdel l n).length l.length with h1 | h1
  · exact h1
  · have h3 : (rdel l n).length = l.length := Nat.le_antisymm rdel_length h1
    have h4 := List.length_filter_eq_length_iff.1 h3 r (rfind_some h).1
    simp [(rfind_some h).2] at h4
end Go.Proofs.YticnmmfiadpbbaaGreat.Sc
