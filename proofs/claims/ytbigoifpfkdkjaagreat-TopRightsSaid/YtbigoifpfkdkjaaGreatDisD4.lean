/- Claimants in their rank: slices.SortFunc at a closure that calls; Rank. -/
import Derived.Test.YtbigoifpfkdkjaaGreatDisB4
import Derived.Test.YtbigoifpfkdkjaaGreatDisC4
import Derived.Shelf.SlSortCmp.NoneTotal
namespace Go.Proofs.YtbigoifpfkdkjaaGreat.Sc
open Go Go.RowKit Go.ChangeShapes Go.WideShapes Go.ChangeAt Go.Sort Go.Shelf
set_option maxRecDepth 100000

theorem flat_gen {α : Type} [Inhabited α] (enc : α → List Value) {sz : Nat} (hsz : 0 < sz) (he : ∀ x, (enc x).length = sz) (d : Array α) : (flatK enc sz d).toList = (d.toList.map enc).flatten := by
  have hr : ∀ r ∈ d.toList.map enc, r.length = sz := by
    intro r hr
    obtain ⟨b, -, rfl⟩ := List.mem_map.1 hr
    exact he b
  apply List.ext_getElem?
  intro t
  by_cases ht : t < d.size * sz
  · have e := flat_get (sz := sz) (d.toList.map enc) hr (t / sz) (t % sz) (Nat.mod_lt _ hsz)
    have e2 : t / sz * sz + t % sz = t := Nat.div_add_mod' t sz
    have h2 : t / sz < d.size := (Nat.div_lt_iff_lt_mul hsz).2 ht
    rw [e2] at e
    rw [e, List.getElem?_map, Array.getElem?_toList, Array.getElem?_toList, Array.getElem?_eq_getElem h2]
    have h3 := get_flatK enc sz d t ht
    have h4 : t < (flatK enc sz d).size := by simpa using ht
    rw [getElem!_pos _ t h4, getElem!_pos d (t / sz) h2] at h3
    rw [Array.getElem?_eq_getElem h4, h3]
    have h5 : t % sz < (enc d[t / sz]).length := by rw [he]; exact Nat.mod_lt _ hsz
    simp only [Option.map_some, Option.bind_some]
    rw [List.getElem?_eq_getElem h5, getElem!_pos (enc d[t / sz]) (t % sz) h5]
  · rw [List.getElem?_eq_none (by simp; omega), List.getElem?_eq_none]
    rw [flat_len (sz := sz) _ hr]
    simp; omega
theorem own_holdsG {α : Type} [Inhabited α] (enc : α → List Value) {sz : Nat} (hsz : 0 < sz) (he : ∀ x, (enc x).length = sz) {w : World} {B g cap n : Nat} {t : TypeId} {d : Array α} (h : w.ownsRow B t sz (.slice (some ⟨g, 0, none⟩) n cap) n (d.toList.map enc).flatten) : HoldsK enc sz w g 0 d ∧ g < w.heap.size := by
  obtain ⟨h1, h2⟩ := h
  rcases h2 with ⟨h2, _⟩ | ⟨g', cap', cur, hv, hB, hh, h3, h4, h5, h6⟩
  · cases h2
  simp only [Value.slice.injEq, Option.some.injEq, Addr.mk.injEq, and_true, true_and] at hv
  obtain ⟨rfl, rfl⟩ := hv
  refine ⟨fun j hj => ⟨?_, free_blk hh _⟩, lt_blk hh⟩
  rw [cell_blk hh, Nat.zero_add]
  have hjl : j < n * sz := by rw [← h1, ← flat_gen enc hsz he]; simpa using hj
  have h7 : (cur.toList.take (n * sz))[j]? = (flatK enc sz d).toList[j]? := by rw [h6, flat_gen enc hsz he]
  rw [List.getElem?_take, if_pos hjl, Array.getElem?_toList, Array.getElem?_toList, Array.getElem?_eq_getElem hj] at h7
  rw [h7]
  rw [getElem!_pos _ j hj]
  rfl
/-- Claimants, each one better than all behind it. -/
def Ranked (l : List Clm) : Prop := ∀ (i j : Nat) (hi : i < l.length) (hj : j < l.length), cmpC l[i] l[j] = if i < j then -1 else if j < i then 1 else 0
def cmpF (m : Nat) (i j : Fin (m + 1)) : Int := if i.1 < j.1 then -1 else if j.1 < i.1 then 1 else 0
theorem lt_cmpF {m : Nat} (i j : Fin (m + 1)) : ltOf (cmpF m) i j = decide (i.1 < j.1) := by
  unfold ltOf cmpF
  by_cases h1 : i.1 < j.1
  · simp [h1]
  · by_cases h2 : j.1 < i.1 <;> simp [h1, h2]
theorem swo_cmpF (m : Nat) : SWO (ltOf (cmpF m)) where
  irrefl x := by rw [lt_cmpF]; simp
  trans x y z h1 h2 := by rw [lt_cmpF, decide_eq_true_eq] at *; omega
  ntrans x y z h1 h2 := by rw [lt_cmpF, decide_eq_false_iff_not] at *; omega
/-- The call sorts a row of its own. -/
def SortedC (w : World) (B : Nat) (v : Value) (n : Nat) (l : List Clm) (e : Ending) (w' : World) : Prop :=
  e = .returned (.tuple #[]) ∧ w'.ownsRow B 33 5 v n (clmCells l) ∧ w.grownBy w' v.ownBlock
theorem fin_map (l : List Clm) (m : Nat) (hl : l.length = m + 1) : (List.finRange (m + 1)).map (fun i => l[i.1]'(by have := i.2; omega)) = l := by
  apply List.ext_getElem
  · simp [hl]
  · intro i h1 h2
    simp
set_option maxHeartbeats 1000000 in
theorem sortClm_any (l : List Clm) (v : Value) (n B : Nat) (w : World) (hR : Ranked l) (h : w.ownsRow B 33 5 v n (clmCells l.reverse)) (hn : n = l.length) (hlen : l.length ≤ 4096) :
    Calls Tryz.prog 27 #[v, .func (.func 28) #[] #[]] w (SortedC w B v n l) := by
  subst hn
  have h' := h
  rcases h.2 with ⟨rfl, h0⟩ | ⟨g, cap, cur, rfl, hg, hh, h3, h4, h5, h6⟩
  · obtain rfl : l = [] := List.length_eq_zero_iff.1 h0
    refine (AnyF.slices_SortFunc_none Tryz.sortCl none 0 _ w).mono ?_
    rintro e w' ⟨rfl, rfl⟩
    exact ⟨rfl, by simpa using h', rfl, rfl, rfl, Nat.le_refl _, fun _ _ _ => rfl⟩
  · match hm : l.length with
    | 0 =>
      obtain rfl : l = [] := List.length_eq_zero_iff.1 hm
      refine (AnyF.slices_SortFunc_none Tryz.sortCl (some ⟨g, 0, none⟩) cap _ w).mono ?_
      rintro e w' ⟨rfl, rfl⟩
      exact ⟨rfl, by simpa using h', rfl, rfl, rfl, Nat.le_refl _, fun _ _ _ => rfl⟩
    | m + 1 =>
      have hsz : (List.finRange (m + 1)).reverse.length = m + 1 := by simp
      obtain ⟨enc, henc⟩ : ∃ enc : Fin (m + 1) → List Value, enc = fun i => (l[i.1]'(by have := i.2; omega)).row := ⟨_, rfl⟩
      have hle : ∀ x, (enc x).length = 5 := fun x => by rw [henc]; rfl
      have hrows : ((List.finRange (m + 1)).map enc).flatten = clmCells l := by
        rw [clmCells_flat, henc]
        congr 1
        have := congrArg (List.map Clm.row) (fin_map l m hm)
        rw [List.map_map] at this
        exact this
      have hrev : ((List.finRange (m + 1)).reverse.toArray.toList.map enc).flatten = clmCells l.reverse := by
        rw [clmCells_flat, List.map_reverse, List.map_reverse]
        congr 2
        have := congrArg (List.map Clm.row) (fin_map l m hm)
        rw [List.map_map] at this
        rw [henc]
        exact this
      rw [← hrev] at h
      obtain ⟨hH, hlt⟩ := own_holdsG enc (by decide) hle h
      have eg : ∀ args w, (callFunc 28 args).run Tryz.prog w = .ok (.enter 28 args) w := enters_of Tryz.func28 (by kernel_rfl) rfl
      have hcl : CmpLays Tryz.prog 28 #[] enc 5 (cmpF m) g 0 (List.finRange (m + 1)).reverse.toArray.size w := fun _ _ _ _ x y => by
        have e := hR x.1 y.1 (by have := x.2; omega) (by have := y.2; omega)
        rw [henc]
        refine (rank1_any (l[x.1]'(by have := x.2; omega)) (l[y.1]'(by have := y.2; omega)) _).mono ?_
        rintro e2 w' ⟨rfl, os, rfl⟩
        exact ⟨by rw [e]; rfl, 0, os, rfl⟩
      have hcon := AnyQ.slices_SortFunc Tryz.sortCl 5 Tryz.isAgg33 Tryz.sizeOf33 enc hle (fun x v hv => by rw [henc] at hv; exact clm_one _ v hv) (cmpF m) (swo_cmpF m) 28 #[] g 0 cap (List.finRange (m + 1)).reverse.toArray w eg hcl hH hlt (by simp; omega)
      have hs0 : (List.finRange (m + 1)).reverse.toArray.size = m + 1 := by simp
      rw [hs0] at hcon
      refine hcon.mono ?_
      rintro e w' ⟨rfl, d', q, os, hp, hs, rfl⟩
      have hdl : d'.size = m + 1 := by rw [hp.1]; simp
      have hp2 : d'.toList.Perm (List.finRange (m + 1)) := by
        have := hp.2.2
        have ex : ∀ {a : Array (Fin (m + 1))}, a.size = m + 1 → a.extract 0 (m + 1) = a := fun {a} ha => by
          have := Array.extract_size (xs := a)
          rw [ha] at this
          exact this
        rw [ex hdl, ex hs0] at this
        exact this.trans (List.reverse_perm _)
      have hs2 : d'.toList.Pairwise fun a b => ¬ b.1 < a.1 := by
        rw [List.pairwise_iff_getElem]
        intro i j hi hj hij
        have hi' : i < d'.size := by simpa using hi
        have hj' : j < d'.size := by simpa using hj
        have := hs i j (Nat.zero_le _) hij (by omega)
        rw [getElem!_pos d' j hj', getElem!_pos d' i hi', lt_cmpF] at this
        simpa using this
      have hd : d'.toList = List.finRange (m + 1) := List.Perm.eq_of_pairwise (le := fun a b => ¬ b.1 < a.1) (fun a b _ _ h1 h2 => Fin.ext (by omega)) hs2 ((List.pairwise_lt_finRange (m + 1)).imp fun {a b} hab h => by have : a.1 < b.1 := hab; omega) hp2
      have hrw : ∀ r ∈ (List.finRange (m + 1)).reverse.toArray.toList.map enc, r.length = 5 := by
        intro r hr
        obtain ⟨b, -, rfl⟩ := List.mem_map.1 hr
        exact hle b
      have ho := own_put (m := q) (os := os) (F := flatK enc 5 d') h (by rw [size_flatK, hdl, flat_len (sz := 5) _ hrw]; simp)
      rw [flat_gen enc (by decide) hle, hd, hrows, hm] at ho
      exact ⟨rfl, ho.1, ho.2⟩
set_option maxHeartbeats 1000000 in
theorem rank_dis (l : List Clm) (v : Value) (w : World) (hs : Sl w 5 v (l.reverse.map Clm.row)) (hR : Ranked l) (hlen : l.length ≤ 4096) :
    Calls Tryz.prog 10 #[v] w (RetRow w 33 5 l.length (clmCells l)) := by
  have HC := Lib.hid (cloneClm_any l.reverse v w hs (by simp; omega))
  have HS := Lib.hid (fun v B W h => sortClm_any l v l.length B W hR h rfl hlen)
  rw [List.length_reverse] at HC
  clear hs hR hlen
  go_enter Tryz.func10, Tryz.ntmps10
  go_wp2_with (first
    | ((with_reducible refine HC.out.mono ?_); rintro e w1 ⟨v1, rfl, ho1, hb1⟩; have HO1 := Lib.hid ho1; have HB1 := Lib.hid hb1; clear ho1 hb1)
    | ((with_reducible refine (HS.out v1 _ _ HO1.out).mono ?_); rintro e w2 ⟨rfl, ho2, hg2⟩; have HO2 := Lib.hid ho2; have HB2 := Lib.hid (HB1.out.grown hg2 HB1.out.size (fun k hk => (HO1.out.lt k hk).1)); clear ho2 hg2)
    | fail)
  go_ret
  exact ⟨v1, rfl, HO2.out, HB2.out⟩
end Go.Proofs.YtbigoifpfkdkjaaGreat.Sc
