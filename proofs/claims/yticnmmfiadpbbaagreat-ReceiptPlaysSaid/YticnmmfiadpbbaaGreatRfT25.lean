/- What is left of lots, by the document. -/
import Derived.Test.YticnmmfiadpbbaaGreatRfJ25
import Derived.StillTailTactics
namespace Go.Proofs.YticnmmfiadpbbaaGreat.Sc
open Go Go.RowKit Go.ChangeShapes Go.WideShapes Go.ChangeAt
set_option maxRecDepth 100000

theorem nd_len {α : Type} [DecidableEq α] : ∀ {S T : List α}, S.Nodup → (∀ x ∈ S, x ∈ T) → S.length ≤ T.length
  | [], _, _, _ => Nat.zero_le _
  | a :: s, T, hn, hs => by
    have ha := hs a List.mem_cons_self
    have hn' := List.nodup_cons.1 hn
    have h1 := nd_len (S := s) (T := T.erase a) hn'.2 fun x hx => (List.mem_erase_of_ne (fun e : x = a => hn'.1 (by rw [← e]; exact hx))).2 (hs x (List.mem_cons_of_mem _ hx))
    have h2 := List.length_erase_of_mem ha
    have h3 := List.length_pos_of_mem ha
    simp only [List.length_cons]
    omega
theorem nd_sub {α : Type} [DecidableEq α] {S T : List α} (hn : S.Nodup) (hs : ∀ x ∈ S, x ∈ T) (hl : T.length ≤ S.length) : ∀ x ∈ T, x ∈ S := by
  intro x hx
  by_cases h : x ∈ S
  · exact h
  · have := nd_len (S := x :: S) (T := T) (List.nodup_cons.2 ⟨h, hn⟩) (fun y hy => (List.mem_cons.1 hy).elim (fun e => e ▸ hx) (hs y))
    simp only [List.length_cons] at this
    omega
/-- How many of these goods are taken. -/
def hitN (A m : List Lt) : Nat := (A.filter fun x => decide (0 < posTot m x.good)).length
theorem hitN_le (l m : List Lt) : hitN (joinL l) m ≤ (joinL m).length := by
  have hN := joinL_norm l
  have hM := joinL_norm m
  have h1 : (((joinL l).filter fun x => decide (0 < posTot m x.good)).map Lt.good).Nodup := (List.filter_sublist.map _).nodup (norm_goods hN)
  have := nd_len (T := (joinL m).map Lt.good) h1 fun g hg => by
    obtain ⟨x, hx, rfl⟩ := List.mem_map.1 hg
    obtain ⟨-, hp⟩ := List.mem_filter.1 hx
    rw [decide_eq_true_eq] at hp
    exact List.mem_map.2 ⟨⟨x.good, posTot m x.good⟩, (mem_norm hM).2 ⟨hp, joinL_tot m _⟩, rfl⟩
  simpa [hitN] using this
theorem hit_can {l m : List Lt} (h : ∀ x ∈ joinL l, posTot m x.good ≤ x.cnt) : hitN (joinL l) m = (joinL m).length ↔ canTake l m := by
  have hN := joinL_norm l
  have hM := joinL_norm m
  have h1 : (((joinL l).filter fun x => decide (0 < posTot m x.good)).map Lt.good).Nodup := (List.filter_sublist.map _).nodup (norm_goods hN)
  have h2 : ∀ g ∈ ((joinL l).filter fun x => decide (0 < posTot m x.good)).map Lt.good, g ∈ (joinL m).map Lt.good := fun g hg => by
    obtain ⟨x, hx, rfl⟩ := List.mem_map.1 hg
    obtain ⟨-, hp⟩ := List.mem_filter.1 hx
    rw [decide_eq_true_eq] at hp
    exact List.mem_map.2 ⟨⟨x.good, posTot m x.good⟩, (mem_norm hM).2 ⟨hp, joinL_tot m _⟩, rfl⟩
  constructor
  · intro he n
    have h0 := posTot_nonneg l n
    rcases Int.lt_or_le 0 (posTot m n) with h3 | h3
    · have h4 := nd_sub h1 h2 (by simp only [List.length_map]; unfold hitN at he; omega) n (List.mem_map.2 ⟨⟨n, posTot m n⟩, (mem_norm hM).2 ⟨h3, joinL_tot m _⟩, rfl⟩)
      obtain ⟨x, hx, rfl⟩ := List.mem_map.1 h4
      obtain ⟨hx1, -⟩ := List.mem_filter.1 hx
      have h5 := h x hx1
      have h6 := posTot_of hN hx1
      rw [joinL_tot] at h6
      omega
    · omega
  · intro hc
    refine Nat.le_antisymm (hitN_le l m) ?_
    have h3 := nd_len (S := (joinL m).map Lt.good) (T := ((joinL l).filter fun x => decide (0 < posTot m x.good)).map Lt.good) (norm_goods hM) fun g hg => by
      obtain ⟨y, hy, rfl⟩ := List.mem_map.1 hg
      have h4 := posTot_of hM hy
      have h5 := hM.pos y hy
      rw [joinL_tot] at h4
      have h6 := hc y.good
      exact List.mem_map.2 ⟨⟨y.good, posTot l y.good⟩, List.mem_filter.2 ⟨(mem_norm hN).2 ⟨by show 0 < posTot l y.good; omega, joinL_tot l _⟩, by show decide (0 < posTot m y.good) = true; rw [decide_eq_true_eq]; omega⟩, rfl⟩
    simpa [hitN] using h3
def leftF (m : List Lt) (x : Lt) : Option Lt := if x.cnt - posTot m x.good = 0 then none else some ⟨x.good, x.cnt - posTot m x.good⟩
theorem leftL_is (l m : List Lt) : leftL l m = (joinL l).filterMap (leftF m) := rfl
theorem left_snoc {A m : List Lt} {k : Nat} (h : k < A.length) : (A.take (k + 1)).filterMap (leftF m) = if A[k].cnt - posTot m A[k].good = 0 then (A.take k).filterMap (leftF m) else (A.take k).filterMap (leftF m) ++ [⟨A[k].good, A[k].cnt - posTot m A[k].good⟩] := by
  rw [List.take_succ_eq_append_getElem h, List.filterMap_append]
  by_cases h0 : A[k].cnt - posTot m A[k].good = 0
  · rw [if_pos h0]
    have : leftF m A[k] = none := if_pos h0
    simp [this]
  · rw [if_neg h0]
    have : leftF m A[k] = some ⟨A[k].good, A[k].cnt - posTot m A[k].good⟩ := if_neg h0
    simp [this]
theorem hit_snoc {A m : List Lt} {k : Nat} (h : k < A.length) : hitN (A.take (k + 1)) m = hitN (A.take k) m + if 0 < posTot m A[k].good then 1 else 0 := by
  unfold hitN
  rw [List.take_succ_eq_append_getElem h, List.filter_append, List.length_append]
  congr 1
  by_cases h0 : 0 < posTot m A[k].good
  · rw [if_pos h0, List.filter_cons_of_pos (by rw [decide_eq_true_eq]; exact h0)]; rfl
  · rw [if_neg h0, List.filter_cons_of_neg (by rw [decide_eq_true_eq]; exact h0)]; rfl
/-- One more of lots each of which is there once. -/
theorem norm_snoc {B : List Lt} (hB : Norm B) {j : Nat} (h : j < B.length) (g : ByteArray) : posTot (B.take (j + 1)) g = (if B[j].good = g then B[j].cnt else posTot (B.take j) g) ∧ (B[j].good = g → posTot (B.take j) g = 0) ∧ 0 < B[j].cnt := by
  have hp := hB.pos _ (List.getElem_mem h)
  have h0 : B[j].good = g → posTot (B.take j) g = 0 := fun e => by
    have hN : Norm (B.take (j + 1)) := ⟨hB.up.sublist (List.take_sublist _ _), fun x hx => hB.pos x (List.mem_of_mem_take hx)⟩
    have h1 := posTot_of hN (x := B[j]) (by rw [List.take_succ_eq_append_getElem h]; exact List.mem_append_right _ List.mem_cons_self)
    rw [posTot_take h hp, if_pos rfl, e] at h1
    omega
  refine ⟨?_, h0, hp⟩
  rw [posTot_take h hp]
  by_cases e : B[j].good = g
  · rw [if_pos e, if_pos e, h0 e]; omega
  · rw [if_neg e, if_neg e]; omega
/-- The document's Take tells what is left, or that there isn't so much. -/
def TakeR (w : World) (l m : List Lt) (e : Ending) (w' : World) : Prop :=
  Below w.heap.size w w' ∧ ((leB l m = true ∧ ∃ v, e = .returned (.tuple #[v, .bool true]) ∧ w'.ownsRow w.heap.size 47 2 v (leftL l m).length (ltCells (leftL l m))) ∨ (leB l m = false ∧ ∃ v, e = .returned (.tuple #[v, .bool false])))
theorem row_shape {w : World} {B sz n : Nat} {e : TypeId} {v : Value} {xs : List Value} (h : w.ownsRow B e sz v n xs) : ∃ a c, v = .slice a n c := by
  rcases h.2 with ⟨rfl, h0⟩ | ⟨g, cap, cur, rfl, _⟩
  · subst h0; exact ⟨_, _, rfl⟩
  · exact ⟨_, _, rfl⟩
theorem set_two {w : World} {b : Nat} {x0 x1 u : Value} {T : TypeId} (h : w.heap[b]? = some (.cells #[x0, x1] T (0, 0))) : (w.setCell ⟨b, 1, none⟩ u).heap[b]? = some (.cells #[x0, u] T (0, 0)) := by
  simp [World.setCell, Array.getElem?_modify, h]
theorem set_keep (w : World) (b o : Nat) (u : Value) : Keep (fun k => k = b) w (w.setCell ⟨b, o, none⟩ u) :=
  ⟨rfl, rfl, rfl, by simp [World.setCell], fun k _ hne => Below.heap_setCell w _ u k (fun e => hne e)⟩
theorem hitN_length (A m : List Lt) : hitN A m ≤ A.length := List.length_filter_le _ _
def oneN (p : Int) : Nat := if 0 < p then 1 else 0
set_option maxHeartbeats 16000000 in
theorem refTake_any (l m : List Lt) (v u : Value) (w : World) (hs : Sl w 2 v (l.map Lt.row)) (hu : Sl w 2 u (m.map Lt.row)) (hl : l.length ≤ 100000) (hm : m.length ≤ 100000) (hp : ∀ x ∈ l, 0 < x.cnt) (hq : ∀ x ∈ m, 0 < x.cnt)
    (hc : ∀ n, posTot l n ≤ 4611686018427387904) (hd : ∀ n, posTot m n ≤ 4611686018427387904) :
    Calls Tryz.prog 80 #[v, u] w (TakeR w l m) := by
  have HJ1 := Lib.hid (fun W (hW : Below w.heap.size w W) => refJoin_any m u W (hu.below hW (Nat.le_refl _)) hm hq hd)
  have HJ2 := Lib.hid (fun W (hW : Below w.heap.size w W) => refJoin_any l v W (hs.below hW (Nat.le_refl _)) hl hp hc)
  obtain ⟨A, hA⟩ : ∃ A, A = joinL l := ⟨_, rfl⟩
  obtain ⟨B, hB⟩ : ∃ B, B = joinL m := ⟨_, rfl⟩
  rw [← hA] at HJ2
  rw [← hB] at HJ1
  have HNB : Hid (Norm B ∧ ∀ g, posTot B g = posTot m g) := Lib.hid (by rw [hB]; exact ⟨joinL_norm m, joinL_tot m⟩)
  have HNA : Hid ((∀ x ∈ A, 0 < x.cnt ∧ x.cnt ≤ 4611686018427387904) ∧ A.length ≤ 100000 ∧ B.length ≤ 100000) := Lib.hid (by
    refine ⟨fun x hx => ?_, by rw [hA]; have := joinL_length' l; omega, by rw [hB]; have := joinL_length' m; omega⟩
    rw [hA] at hx
    have h1 := posTot_of (joinL_norm l) hx
    rw [joinL_tot] at h1
    have := hc x.good
    exact ⟨(joinL_norm l).pos x hx, by omega⟩)
  have HPM : Hid (∀ g, 0 ≤ posTot m g ∧ posTot m g ≤ 4611686018427387904) := Lib.hid (fun g => ⟨posTot_nonneg m g, hd g⟩)
  have HEND : Hid ((∀ x ∈ A, posTot m x.good ≤ x.cnt) → (hitN A m = B.length ↔ canTake l m)) := Lib.hid (by rw [hA, hB]; exact hit_can)
  have HBAD : Hid ((∃ x ∈ A, x.cnt < posTot m x.good) → leB l m = false) := Lib.hid (by
    rintro ⟨x, hx, h1⟩
    rw [hA] at hx
    have h2 := posTot_of (joinL_norm l) hx
    rw [joinL_tot] at h2
    rw [Bool.eq_false_iff]
    intro h3
    have := (leB_iff l m).1 h3 x.good
    omega)
  have HLF : Hid (leftL l m = A.filterMap (leftF m)) := Lib.hid (by rw [hA, leftL_is])
  have HLS : Hid (∀ k, ∀ h : k < A.length, (A.take (k + 1)).filterMap (leftF m) = if A[k].cnt - posTot m A[k].good = 0 then (A.take k).filterMap (leftF m) else (A.take k).filterMap (leftF m) ++ [⟨A[k].good, A[k].cnt - posTot m A[k].good⟩]) := Lib.hid (fun k h => left_snoc h)
  obtain ⟨i0, hi, hz, hsz, hby⟩ := info_parts infoLt
  have HI := Lib.hid (And.intro hi (And.intro hz (And.intro hsz hby)))
  clear hi hz hsz hby hs hu hl hm hp hq hc hd hA hB
  have HB0 := Lib.hid (one_below w (.cells #[] 47))
  have HZ0 : Hid ((w.alloc (.cells #[] 47)).heap.size = w.heap.size + 1) := Lib.hid (by simp)
  have HO0 : Hid ((w.alloc (.cells #[] 47)).ownsRow w.heap.size 47 2 (.slice (some ⟨w.heap.size, 0, none⟩) 0 0) 0 []) := Lib.hid (World.ownsRow_made w #[] 0 (Nat.le_refl _) (by simp [maxLen]) rfl)
  go_enter Tryz.func80, Tryz.ntmps80
  go_wp2_with fail
  obtain ⟨w0, hw0⟩ : ∃ W, W = w.alloc (.cells #[] 47) := ⟨_, rfl⟩
  rw [← hw0] at HB0 HZ0 HO0 ⊢
  clear hw0
  go_wp2_with (first
    | ((with_reducible refine (HJ1.out _ HB0.out).mono ?_); rintro e w1 ⟨vB, rfl, hown1, hb1⟩; obtain ⟨aB, cB, rfl⟩ := row_shape hown1; have HOB1 := Lib.hid hown1; have HB1 := Lib.hid (HB0.out.trans (hb1.mono HB0.out.size)); have HK1 := Lib.hid hb1; clear hown1 hb1)
    | ((with_reducible refine (HJ2.out _ HB1.out).mono ?_); rintro e w2 ⟨vA, rfl, hown2, hb2⟩; obtain ⟨aA, cA, rfl⟩ := row_shape hown2; have HOA := Lib.hid hown2; have HK2 := Lib.hid hb2; clear hown2 hb2)
    | fail)
  obtain ⟨F, hF⟩ : ∃ F : Nat → Prop, F = fun b => b = w.heap.size ∨ w2.heap.size ≤ b := ⟨_, rfl⟩
  have HF : Hid (∀ b, F b ↔ (b = w.heap.size ∨ w2.heap.size ≤ b)) := Lib.hid (fun b => by rw [hF])
  clear hF
  have HSZ : Hid (w0.heap.size = w.heap.size + 1 ∧ w0.heap.size ≤ w1.heap.size ∧ w1.heap.size ≤ w2.heap.size) := Lib.hid ⟨HZ0.out, HK1.out.size, HK2.out.size⟩
  have HOB2 := Lib.hid (ownsRow_below HOB1.out HK2.out)
  have HOO2 := Lib.hid (ownsRow_below (ownsRow_below HO0.out HK1.out) HK2.out)
  have HB2 : Hid (Below w.heap.size w w2) := Lib.hid (HB1.out.trans (HK2.out.mono HB1.out.size))
  have HFA : Hid (Off F (.slice aA A.length cA) ∧ Off F (.slice aB B.length cB)) := Lib.hid ⟨ownsRow_off HOA.out (fun b h1 h2 h3 => by have := (HF.out b).1 h3; have := HSZ.out; omega), fun b hb h3 => by have h1 := (HF.out b).1 h3; have h2 := HOB1.out.lt b hb; have := HSZ.out; omega⟩
  have hal : A.length ≤ 9223372036854775807 := by have := HNA.out.2.1; omega
  have hbl : B.length ≤ 9223372036854775807 := by have := HNA.out.2.2; omega
  clear HJ1 HJ2 HB0 HZ0 HO0 HK1 HB1 HOB1 HK2
  go_loopw [6, 7, 18] (fun o n i wr => ∃ (k : Nat) (out : List Lt), k ≤ A.length ∧ i = .int .i64 k ∧ n = .int .i64 (hitN (A.take k) m) ∧ out = (A.take k).filterMap (leftF m) ∧ wr.ownsRow w.heap.size 47 2 o out.length (ltCells out) ∧ (∀ b, o.ownBlock = some b → F b) ∧ Keep F w2 wr ∧ (∀ x ∈ A.take k, posTot m x.good ≤ x.cnt)) (fun _ _ i _ => A.length - (intOf i).toNat)
  case atStart => exact ⟨0, [], Nat.zero_le _, rfl, rfl, rfl, HOO2.out, fun b hb => (HF.out b).2 (.inl (Option.some.inj hb).symm), Keep.refl _ _, by simp⟩
  case round =>
    obtain ⟨k, out, hk, rfl, rfl, hout, hown, hwho, hkp, hall⟩ := hrel
    obtain ⟨wo, rfl⟩ : ∃ wo : World, wo = wr := ⟨_, rfl⟩
    have HOUT := Lib.hid hout
    have HOWN := Lib.hid hown
    have HWHO := Lib.hid hwho
    have HKP := Lib.hid hkp
    have HALL := Lib.hid hall
    have HSA := Lib.hid (own_lots (ownsRow_keep HOA.out hkp HFA.out.1) rfl)
    have HSB := Lib.hid (own_lots (ownsRow_keep HOB2.out hkp HFA.out.2) rfl)
    have HBW : Hid (Below w.heap.size w wo) := Lib.hid (hkp.behind HB2.out HB2.out.size (fun b hb h => by have := (HF.out b).1 h; have := HSZ.out; omega))
    have hol : out.length ≤ k := by rw [hout]; exact Nat.le_trans (List.length_filterMap_le _ _) (by simp; omega)
    have HOL := Lib.hid hol
    have HL : Hid (out.length + 1 ≤ maxLen ∧ (out.length + 1) * 24 ≤ 140737488355328 ∧ w.heap.size ≤ wo.heap.size) := Lib.hid (by
      have h1 := HNA.out.2.1
      have h2 := HBW.out.size
      simp only [maxLen]
      omega)
    clear hout hown hwho hkp hall
    by_cases hlt : k < A.length
    · obtain ⟨b, off, rfl, -, hb, hcc⟩ := HSA.out.at (i := k) (by simpa using hlt)
      have d0 : wo.cell? ⟨b, off + k * 2, none⟩ = some (.string A[k].good) := hcc k A[k].row (by simp [hlt]) 0 _ rfl
      have d1 : wo.cell? ⟨b, off + k * 2 + 1, none⟩ = some (.int .i64 A[k].cnt) := hcc k A[k].row (by simp [hlt]) 1 _ rfl
      have HX := Lib.hid (HNA.out.1 A[k] (List.getElem_mem hlt))
      have HNX := Lib.hid (HLS.out k hlt)
      have HHX := Lib.hid (hit_snoc (m := m) hlt)
      have HBX : Hid (A[k].cnt < posTot m A[k].good → leB l m = false) := Lib.hid (fun h => HBAD.out ⟨_, List.getElem_mem hlt, h⟩)
      have HAX : Hid (posTot m A[k].good ≤ A[k].cnt → ∀ x ∈ A.take (k + 1), posTot m x.good ≤ x.cnt) := Lib.hid (fun h x hx => by
        rw [List.take_succ_eq_append_getElem hlt] at hx
        rcases List.mem_append.1 hx with hx | hx
        · exact HALL.out x hx
        · rw [List.mem_singleton.1 hx]; exact h)
      obtain ⟨h0, hh0⟩ : ∃ h, h = hitN (A.take k) m := ⟨_, rfl⟩
      have HH0 : Hid (h0 ≤ 100000) := Lib.hid (by have h1 := hitN_length (A.take k) m; have h2 := HNA.out.2.1; simp only [List.length_take] at h1; omega)
      rw [← hh0] at HHX ⊢
      clear hcc hh0
      generalize A[k] = x at *
      obtain ⟨xn, xc⟩ := x
      simp only at d0 d1 HX HNX HHX HBX HAX
      obtain ⟨bx, hbx⟩ : ∃ b, b = wo.heap.size := ⟨_, rfl⟩
      have HBXE := Lib.hid hbx
      have HBA := Lib.hid (heap_alloc_new wo (.cells #[.string xn, .int .i64 xc] 47))
      have HB1 := Lib.hid (one_below wo (.cells #[.string xn, .int .i64 xc] 47))
      have hbs : b < wo.heap.size := hb
      go_wp2_with fail
      obtain ⟨wi, hwi⟩ : ∃ W, W = wo.alloc (.cells #[.string xn, .int .i64 xc] 47) := ⟨_, rfl⟩
      rw [← hwi, ← hbx] at HBA
      rw [← hwi] at HB1
      have HZI : Hid (wi.heap.size = bx + 1) := Lib.hid (by rw [hwi, hbx]; simp)
      rw [← hwi, ← hbx]
      clear hwi hbx d0 d1 hbs
      go_loopw [7, 24] (fun n i wz => ∃ (j N : Nat), j ≤ B.length ∧ i = .int .i64 j ∧ n = .int .i64 N ∧ N = h0 + oneN (posTot (B.take j) xn) ∧ wz.heap[bx]? = some (.cells #[.string xn, .int .i64 (xc - posTot (B.take j) xn)] 47 (0, 0)) ∧ Keep (fun b => b = bx) wi wz) (fun _ i _ => B.length - (intOf i).toNat)
      case atStart => exact ⟨0, h0, Nat.zero_le _, rfl, rfl, by simp [posTot, oneN], by simpa [posTot] using HBA.out, Keep.refl _ _⟩
      case round =>
        obtain ⟨j, N, hj, rfl, rfl, hN, hbox, hk2⟩ := hrel
        have HK2 := Lib.hid hk2
        have HBOX := Lib.hid hbox
        have HNN := Lib.hid hN
        have HKW : Hid (∀ b, b < wo.heap.size → wr.heap[b]? = wo.heap[b]?) := Lib.hid (fun b hb => (hk2.block b (by have := HB1.out.size; omega) (fun e => by have := HBXE.out; omega)).trans (HB1.out.block b hb))
        have hnb : N ≤ 100001 := by
          have := HH0.out
          rw [hN]
          unfold oneN
          split <;> omega
        by_cases hlj : j < B.length
        · obtain ⟨b', off', rfl, -, hb', hcc⟩ := HSB.out.at (i := j) (by simpa using hlj)
          have e0 : wr.cell? ⟨b', off' + j * 2, none⟩ = some (.string B[j].good) := (World.cell?_of_block (HKW.out b' hb')).trans (hcc j B[j].row (by simp [hlj]) 0 _ rfl)
          have e1 : wr.cell? ⟨b', off' + j * 2 + 1, none⟩ = some (.int .i64 B[j].cnt) := (World.cell?_of_block (HKW.out b' hb')).trans (hcc j B[j].row (by simp [hlj]) 1 _ rfl)
          have HS := Lib.hid (norm_snoc HNB.out.1 hlj xn)
          have HP1 : Hid (0 ≤ posTot (B.take j) xn ∧ posTot (B.take (j + 1)) xn ≤ 4611686018427387904) := Lib.hid ⟨posTot_nonneg _ _, by have h1 := posTot_take_le B (j + 1) xn; rw [HNB.out.2] at h1; have := (HPM.out xn).2; omega⟩
          clear hcc hk2 hbox hN
          generalize B[j] = y at *
          obtain ⟨yn, yc⟩ := y
          simp only at e0 e1 HS
          obtain ⟨P, hP⟩ : ∃ P, P = posTot (B.take j) xn := ⟨_, rfl⟩
          obtain ⟨P1, hP1⟩ : ∃ P, P = posTot (B.take (j + 1)) xn := ⟨_, rfl⟩
          rw [← hP, ← hP1] at HS HP1
          rw [← hP] at HBOX HNN
          have HPE := Lib.hid hP1
          clear hP hP1
          have HY := Lib.hid (heap_alloc_new wr (.cells #[.string yn, .int .i64 yc] 47))
          have HBY : Hid ((wr.alloc (.cells #[.string yn, .int .i64 yc] 47)).heap[bx]? = some (.cells #[.string xn, .int .i64 (xc - P)] 47 (0, 0))) := Lib.hid ((Below.heap_alloc _ _ _ (lt_blk HBOX.out)).trans HBOX.out)
          have HK3 := Lib.hid (HK2.out.trans (Keep.alloc (fun b => b = bx) wr (.cells #[.string yn, .int .i64 yc] 47)) (fun _ _ h => h))
          have x0 := cell_blk HBY.out 0
          have x1 := cell_blk HBY.out 1
          have xf := free_blk HBY.out 1
          have y0 := cell_blk HY.out 0
          have y1 := cell_blk HY.out 1
          simp only [List.getElem?_toArray, List.getElem?_cons_succ, List.getElem?_cons_zero] at x0 x1 y0 y1
          by_cases hg : yn = xn
          · have t1 := str_yes hg
            have HP0 : Hid (P = 0 ∧ P1 = yc ∧ 0 < yc) := Lib.hid ⟨HS.out.2.1 hg, by rw [HS.out.1, if_pos hg], HS.out.2.2⟩
            have hx := HX.out
            have hp := HP1.out
            have eO : wrap64 (xc - P - yc) = xc - yc := by have h1 := HP0.out; rw [h1.1, Int.sub_zero]; exact wrap_q (by omega)
            clear hg hx hp
            go_wp2_with fail
            have HBZ := Lib.hid (set_two (u := .int .i64 (wrap64 (xc - P - yc))) HBY.out)
            have HK4 := Lib.hid (HK3.out.trans (set_keep (wr.alloc (.cells #[.string yn, .int .i64 yc] 47)) bx 1 (.int .i64 (wrap64 (xc - P - yc)))) (fun _ _ h => h))
            rw [eO] at HBZ HK4
            go_roundw
            case rel => exact ⟨j + 1, N + 1, by omega, by go_num, by go_num, by rw [← HPE.out, HNN.out]; have h1 := HP0.out; rw [h1.1, h1.2.1]; unfold oneN; rw [if_neg (by omega), if_pos h1.2.2], by rw [← HPE.out]; have h1 := HP0.out; rw [h1.2.1]; exact HBZ.out, HK4.out⟩
            case measure => (simp [intOf]) <;> omega
          · have t1 := str_no hg
            have HP0 : Hid (P1 = P) := Lib.hid (by rw [HS.out.1, if_neg hg])
            clear hg
            go_wp2_with fail
            go_roundw
            case rel => exact ⟨j + 1, N, by omega, by go_num, rfl, by rw [← HPE.out, HNN.out, HP0.out], by rw [← HPE.out, HP0.out]; exact HBY.out, HK3.out⟩
            case measure => (simp [intOf]) <;> omega
        · have HPQ : Hid (posTot (B.take j) xn = posTot m xn) := Lib.hid (by rw [List.take_of_length_le (by omega), HNB.out.2])
          rw [HPQ.out] at HBOX HNN
          obtain ⟨Q, hQ⟩ : ∃ Q, Q = posTot m xn := ⟨_, rfl⟩
          have HQR := HPM.out xn
          rw [← hQ] at HBOX HNN HNX HHX HBX HAX HQR
          have HN2 : Hid (N = hitN (A.take (k + 1)) m) := Lib.hid (by rw [HNN.out, HHX.out]; rfl)
          have x0 := cell_blk HBOX.out 0
          have x1 := cell_blk HBOX.out 1
          simp only [List.getElem?_toArray, List.getElem?_cons_succ, List.getElem?_cons_zero] at x0 x1
          have HKP5 : Hid (Keep F w2 wr) := Lib.hid (HKP.out.trans ((Keep.of_below (F := F) HB1.out).trans HK2.out (fun b hb e => (HF.out b).2 (.inr (by have := HBXE.out; have := HKP.out.size; omega)))) (fun _ _ h => h))
          have HOWN5 : Hid (wr.ownsRow w.heap.size 47 2 u6 out.length (ltCells out)) := Lib.hid (ownsRow_keep (ownsRow_below HOWN.out HB1.out) HK2.out (fun b hb e => by have h1 := (HOWN.out.lt b hb).2; have h2 := HBXE.out; omega))
          have HBW5 : Hid (Below w.heap.size w wr) := Lib.hid (HKP5.out.behind HB2.out HB2.out.size (fun b hb h => by have := (HF.out b).1 h; have := HSZ.out; omega))
          have hx := HX.out
          have HL5 : Hid (out.length + 1 ≤ maxLen ∧ (out.length + 1) * 24 ≤ 140737488355328 ∧ w.heap.size ≤ wr.heap.size) := Lib.hid ⟨HL.out.1, HL.out.2.1, HBW5.out.size⟩
          clear hk2 hbox hN hQ hnb
          obtain ⟨R, hR⟩ : ∃ R, R = xc - Q := ⟨_, rfl⟩
          rw [← hR] at x1 HNX
          have HR := Lib.hid hR
          by_cases h1 : R < 0
          · have t1 : decide (R < 0) = true := decide_eq_true h1
            have HQ2 := Lib.hid (HBX.out (by omega))
            clear h1 hR hx HQR
            go_wp2_with fail
            go_ret2
            exact ⟨HBW5.out, .inr ⟨HQ2.out, _, rfl⟩⟩
          · have t1 : decide (R < 0) = false := decide_eq_false h1
            have HA2 := Lib.hid (HAX.out (by omega))
            by_cases h2 : 0 < R
            · have t2 : decide (0 < R) = true := decide_eq_true h2
              have HN3 : Hid ((A.take (k + 1)).filterMap (leftF m) = out ++ [⟨xn, R⟩]) := Lib.hid (by rw [HNX.out, if_neg (by omega), HOUT.out])
              clear h1 h2 hR hx HQR
              go_wp2_with (first
                | (((with_reducible refine Any.wpl_push ?_ ?_ ?_ Tryz.underlying32 HI.out.1 HI.out.2.1 HI.out.2.2.1 HI.out.2.2.2 ?_ (by decide) ?_ (lt_one xn R) (HOWN5.out) HL5.out.1 HL5.out.2.1 HL5.out.2.2 ?_); rfl; rfl; rfl; rfl; rfl; intro v1 w1 hown1 hgrow1 hwho1); have HK6 := Lib.hid (Keep.of_grown hgrow1); have HOWN6 := Lib.hid hown1; have HWH6 := Lib.hid hwho1; clear hown1 hgrow1 hwho1)
                | fail)
              have HWO6 : Hid (∀ b, v1.ownBlock = some b → F b) := Lib.hid (fun b hb => (HWH6.out b hb).elim (HWHO.out b) (fun h => (HF.out b).2 (.inr (Nat.le_trans HKP5.out.size h))))
              go_roundw
              case rel => exact ⟨k + 1, out ++ [⟨xn, R⟩], by omega, by go_num, by rw [HN2.out], HN3.out.symm, by have := HOWN6.out; simpa [ltCells, Lt.row] using this, HWO6.out, HKP5.out.trans HK6.out (fun b hb e => HWHO.out b e), HA2.out⟩
              case measure => (simp [intOf]) <;> omega
            · have t2 : decide (0 < R) = false := decide_eq_false h2
              have HN3 : Hid ((A.take (k + 1)).filterMap (leftF m) = out) := Lib.hid (by rw [HNX.out, if_pos (by omega), HOUT.out])
              clear h1 h2 hR hx HQR
              go_wp2_with fail
              go_roundw
              case rel => exact ⟨k + 1, out, by omega, by go_num, by rw [HN2.out], HN3.out.symm, HOWN5.out, HWHO.out, HKP5.out, HA2.out⟩
              case measure => (simp [intOf]) <;> omega
    · have HE : Hid (A.take k = A) := Lib.hid (List.take_of_length_le (by omega))
      rw [HE.out] at HALL HOUT ⊢
      have HCQ := Lib.hid (HEND.out HALL.out)
      obtain ⟨H, hH⟩ : ∃ H, H = hitN A m := ⟨_, rfl⟩
      rw [← hH] at HCQ ⊢
      have hHl : H ≤ 100000 := by have h1 := hitN_length A m; have := HNA.out.2.1; omega
      rw [← HLF.out] at HOUT
      clear hH
      by_cases he : H = B.length
      · have t1 : ((H : Int) == (B.length : Int)) = true := by simp [he]
        have HY := Lib.hid ((leB_iff l m).2 (HCQ.out.1 he))
        clear he
        go_wp2_with fail
        go_ret2
        exact ⟨HBW.out, .inl ⟨HY.out, _, rfl, by rw [← HOUT.out]; exact HOWN.out⟩⟩
      · have t1 : ((H : Int) == (B.length : Int)) = false := by simp; omega
        have HY : Hid (leB l m = false) := Lib.hid (by rw [Bool.eq_false_iff]; intro h; exact he (HCQ.out.2 ((leB_iff l m).1 h)))
        clear he
        go_wp2_with fail
        go_ret2
        exact ⟨HBW.out, .inr ⟨HY.out, _, rfl⟩⟩
end Go.Proofs.YticnmmfiadpbbaaGreat.Sc
