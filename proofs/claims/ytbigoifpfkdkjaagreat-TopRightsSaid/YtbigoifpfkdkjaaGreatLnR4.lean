/- Liens: pledges taken in, and their rank. -/
import Derived.Test.YtbigoifpfkdkjaaGreatPledge26
import Derived.Test.YtbigoifpfkdkjaaGreatRankB26
import Derived.Test.YtbigoifpfkdkjaaGreatRel26
namespace Go.Proofs.YtbigoifpfkdkjaaGreat.Sc
open Go Go.RowKit Go.ChangeShapes Go.WideShapes Go.ChangeAt
set_option maxRecDepth 100000

theorem less_trans {x a b : Pg} (h1 : less x a = false) (h2 : less a b = false) : less x b = false := by
  obtain ⟨_, _, _, xd, _, xh⟩ := x
  obtain ⟨_, _, _, ad, _, ah⟩ := a
  obtain ⟨_, _, _, bd, _, bh⟩ := b
  unfold less at *
  cases xh <;> cases ah <;> cases bh <;> simp_all <;> omega
theorem less_asymm {x a : Pg} (h : less x a = true) : less a x = false := by
  obtain ⟨_, _, _, xd, _, xh⟩ := x
  obtain ⟨_, _, _, ad, _, ah⟩ := a
  unfold less at *
  cases xh <;> cases ah <;> simp_all <;> omega
def Desc (D : List Pg) : Prop := D.Pairwise fun a b => less a b = false
theorem insR_front {D : List Pg} {x : Pg} (h : ∀ b ∈ D, less x b = false) : insR D x = x :: D := by
  cases D with
  | nil => rfl
  | cons a r => rw [insR, h a List.mem_cons_self]; rfl
theorem insR_desc {D : List Pg} (h : Desc D) (x : Pg) : Desc (insR D x) := by
  induction D with
  | nil => exact List.pairwise_singleton _ _
  | cons a r ih =>
    obtain ⟨h1, h2⟩ := List.pairwise_cons.1 h
    rw [insR]
    split
    · rename_i hx
      refine List.pairwise_cons.2 ⟨fun b hb => ?_, ih h2⟩
      rcases List.mem_cons.1 ((insR_perm r x).mem_iff.1 hb) with rfl | hb
      · exact less_asymm hx
      · exact h1 b hb
    · rename_i hx
      have hx' : less x a = false := by simpa using hx
      refine List.pairwise_cons.2 ⟨fun b hb => ?_, h⟩
      rcases List.mem_cons.1 hb with rfl | hb
      · exact hx'
      · exact less_trans hx' (h1 b hb)
theorem rIns_desc {D : List Pg} (h : Desc D.reverse) (x : Pg) : Desc (rIns D x).reverse := by
  rw [rIns, List.reverse_reverse]
  exact insR_desc h x
theorem fold_desc (r : List Pg) : ∀ D, Desc D.reverse → Desc (r.foldl rIns D).reverse := by
  induction r with
  | nil => exact fun _ h => h
  | cons x r ih => exact fun D h => ih _ (rIns_desc h x)
theorem rank_desc (r : List Pg) : Desc (rankOf r).reverse := fold_desc r [] List.Pairwise.nil
def Asc (D : List Pg) : Prop := D.Pairwise fun a b => less b a = false
theorem desc_asc {D : List Pg} (h : Desc D.reverse) : Asc D := by
  have := List.pairwise_reverse.1 h
  exact this
theorem pledge_same (l : List Pg) (p : Pg) : pledgeK (ofT l) l.length p = pledgeC l p := rfl
theorem pledge_rows (l : List Pg) (p : Pg) : pledgeR (ofT l) l.length p = ofT (pledgeL l p) := by
  rw [pledgeR, pledgeL, pledge_same]
  split
  · funext u
    rw [ofT_append, ofT_one]
    by_cases h : u = p.thing
    · subst h; rw [if_pos rfl, if_pos rfl]
    · rw [if_neg h, if_neg (fun e => h e.symm), List.append_nil]
  · rfl
theorem pledge_num (l : List Pg) (p : Pg) : pledgeN (ofT l) l.length p = (pledgeL l p).length := by
  rw [pledgeN, pledgeL, pledge_same]
  split
  · simp
  · rfl
theorem ofT_le (l : List Pg) (t : ByteArray) : (ofT l t).length ≤ l.length := List.length_filter_le _ _
theorem rank_helds {l : List Pg} (h : LnOk l) (t : ByteArray) : (rankOf (ofT l t)).Pairwise fun x y => ¬ (x.held = true ∧ y.held = true) := by
  have h1 : (ofT l t).Pairwise fun x y => ¬ (x.held = true ∧ y.held = true) := by
    have h2 := h.helds.filter (p := fun x => decide (x.thing = t))
    refine List.Pairwise.imp_of_mem (fun {a b} ha hb hab => hab ?_) h2
    rw [(ofT_mem.1 ha).2, (ofT_mem.1 hb).2]
  exact ((rankOf_perm (ofT l t)).pairwise_iff (fun {a b} hab hba => hab ⟨hba.2, hba.1⟩)).2 h1
theorem rank_once {l : List Pg} (h : LnOk l) (t : ByteArray) {r : List Pg} (hr : r = rankOf (ofT l t)) :
    (∀ m (hm : m + 1 < r.length), r[m + 1].held = false ∧ r[m + 1].debtor = (r[0]'(by omega)).debtor ∧ (r[m].held = false → r[m].day ≤ r[m + 1].day)) ∧
    (∀ j k (hk : k < r.length) (hj : j < k), (r[j]'(by omega)).cred ≠ r[k].cred) := by
  have hasc : Asc (rankOf (ofT l t)) := desc_asc (rank_desc _)
  have hh := rank_helds h t
  have hn := rank_nodup h t
  have hmem : ∀ x ∈ rankOf (ofT l t), x ∈ l ∧ x.thing = t := fun x hx => ofT_mem.1 ((rankOf_perm _).mem_iff.1 hx)
  rw [← hr] at hasc hh hn hmem
  clear hr
  refine ⟨fun m hm => ⟨?_, ?_, fun h0 => ?_⟩, fun j k hk hj e => ?_⟩
  · cases hq : r[m + 1].held with
    | false => rfl
    | true =>
      have h1 := List.pairwise_iff_getElem.1 hasc 0 (m + 1) (by omega) hm (by omega)
      have h2 := List.pairwise_iff_getElem.1 hh 0 (m + 1) (by omega) hm (by omega)
      have h3 : (r[0]'(by omega)).held = true := by
        cases h4 : (r[0]'(by omega)).held with
        | true => rfl
        | false =>
          unfold less at h1
          rw [hq, h4] at h1
          simp at h1
      exact absurd ⟨h3, hq⟩ h2
  · have h1 := hmem _ (List.getElem_mem hm)
    have h2 := hmem _ (List.getElem_mem (show 0 < r.length by omega))
    exact h.one _ h1.1 _ h2.1 (by rw [h1.2, h2.2])
  · have h1 := List.pairwise_iff_getElem.1 hasc m (m + 1) (by omega) hm (by omega)
    unfold less at h1
    rw [h0] at h1
    cases hq : r[m + 1].held with
    | true => rw [hq] at h1; simp at h1
    | false =>
      rw [hq] at h1
      simp at h1
      omega
  · have h1 := List.pairwise_iff_getElem.1 hn j k (by simpa using Nat.lt_trans hj hk) (by simpa using hk) hj
    simp only [List.getElem_map] at h1
    exact h1 e
theorem sortStable_any (D : List Pg) (v : Value) (B : Nat) (w : World) (h : w.ownsRow B 27 6 v D.length (pgCells D)) (hl : D.length ≤ 20) :
    Calls Tryz.prog 19 #[v, .func (.func 20) #[] #[]] w (SortP w B v (rankOf D)) := by
  obtain ⟨a, c, rfl⟩ : ∃ a c, v = .slice a D.length c := by simpa using (own_pgs h rfl).shape
  have HS := Lib.hid (stable_any D _ B w h hl)
  have hll : D.length ≤ 20 := hl
  clear h hl
  go_enter Tryz.func19, Tryz.ntmps19
  go_wp2_with (first
    | ((with_reducible refine HS.out.mono ?_); rintro e w2 ⟨rfl, ho2, hg2⟩; have HO2 := Lib.hid ho2; have HG2 := Lib.hid hg2; clear ho2 hg2)
    | fail)
  go_end0
  exact ⟨rfl, HO2.out, HG2.out⟩
set_option maxHeartbeats 2000000 in
theorem rank_any {w : World} {F : Nat → Prop} {bk bm n : Nat} {R : ByteArray → List Pg} {es : Mp.Ents} (h : LnAt w F bk bm R n es) (t : ByteArray) (hl : (R t).length ≤ 20) :
    Calls Tryz.prog 7 #[.pointer (some ⟨bk, 0, none⟩), .string t] w (RetRow w 27 6 (rankOf (R t)).length (pgCells (rankOf (R t)))) := by
  have HM := Lib.hid h.map
  have y0 := cell_blk h.box 0
  have HGV : Hid ((Mp.mget es t).getD (.slice none 0 0) = rowV es t) := Lib.hid rfl
  have HC := Lib.hid (clonePg_any (R t) _ w (own_pgs (h.row t) rfl) (by omega))
  have HS := Lib.hid (fun v B W h => sortStable_any (R t) v B W h hl)
  generalize rowV es t = v at *
  generalize rankOf (R t) = E at *
  clear h hl
  go_enter Tryz.func7, Tryz.ntmps7
  go_wp2_with (first
    | ((with_reducible refine Mp.wpl_val (l := es) (key := t) (v := v) ?_ ?_ ?_ Tryz.underlying47 Tryz.underlying9 (zeroRow _) HM.out HGV.out ?_); rfl; rfl; rfl)
    | ((with_reducible refine HC.out.mono ?_); rintro e w2 ⟨v2, rfl, ho2, hb2⟩; have HO2 := Lib.hid ho2; have HB2 := Lib.hid hb2; clear ho2 hb2)
    | ((with_reducible refine (HS.out _ _ _ HO2.out).mono ?_); rintro e w3 ⟨rfl, ho3, hg3⟩; have HO3 := Lib.hid ho3; have HG3 := Lib.hid hg3; clear ho3 hg3)
    | fail)
  go_ret
  exact ⟨v2, rfl, HO3.out, HB2.out.grown HG3.out HB2.out.size (fun k hk => (HO2.out.lt k hk).1)⟩
def Lx (w : World) (F : Nat → Prop) (bk bm : Nat) (l : List Pg) : Prop := ∃ es, LnAt w F bk bm (ofT l) l.length es
theorem Lx.below {w w' : World} {F : Nat → Prop} {bk bm : Nat} {l : List Pg} (h : Lx w F bk bm l) (k : Below w.heap.size w w') : Lx w' F bk bm l := by
  obtain ⟨es, h⟩ := h
  exact ⟨es, h.below k⟩
/-- One more pledge is taken in, or refused. -/
def LxP4 (w : World) (F : Nat → Prop) (bk bm : Nat) (l : List Pg) (e : Ending) (w' : World) : Prop := ∃ F' v, e = .returned v ∧ Lx w' F' bk bm l ∧ (∀ k, F' k → F k ∨ w.heap.size ≤ k) ∧ Keep F w w'
theorem pledge4_any {w : World} {F : Nat → Prop} {bk bm : Nat} {l : List Pg} (h : Lx w F bk bm l) (p : Pg) (hl : l.length ≤ 4000) : Calls Tryz.prog 6 #[.pointer (some ⟨bk, 0, none⟩), .agg p.cells] w (LxP4 w F bk bm (pledgeL l p)) := by
  obtain ⟨es, h⟩ := h
  refine (pledge_any h p (by omega) (fun t => ofT_le l t)).mono ?_
  rintro e w' ⟨F', es', h1, h2, h3, h4⟩
  rw [pledge_rows, pledge_num] at h2
  exact ⟨F', _, h1, ⟨es', h2⟩, h3, h4⟩
theorem rank4_any {w : World} {F : Nat → Prop} {bk bm : Nat} {l : List Pg} (h : Lx w F bk bm l) (t : ByteArray) (hl : l.length ≤ 20) : Calls Tryz.prog 7 #[.pointer (some ⟨bk, 0, none⟩), .string t] w (RetRow w 27 6 (rankOf (ofT l t)).length (pgCells (rankOf (ofT l t)))) := by
  obtain ⟨es, h⟩ := h
  exact rank_any h t (Nat.le_trans (ofT_le l t) hl)
def NewX4 (w : World) (e : Ending) (w' : World) : Prop := ∃ F bk bm, e = .returned (.pointer (some ⟨bk, 0, none⟩)) ∧ Lx w' F bk bm [] ∧ (∀ k, F k → w.heap.size ≤ k) ∧ Below w.heap.size w w'
theorem new4_any (w : World) : Calls Tryz.prog 5 #[] w (NewX4 w) := by
  refine (new_any w).mono ?_
  rintro e w' ⟨bk, bm, he, hl, hb⟩
  exact ⟨_, bk, bm, he, ⟨[], hl⟩, fun k hk => hk.1, hb⟩
end Go.Proofs.YtbigoifpfkdkjaaGreat.Sc
