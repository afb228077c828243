/- The program's boxes: the map's keys, sorted: the document's row. -/
import Derived.Test.YtmjblefjaccocaaHist17
import Derived.Test.YtmjblefjaccocaaLays17
import Derived.Sort.KeysCollected
namespace Go.Proofs.Ytmjblefjaccocaa.Sc
open Go Go.RowKit Go.ChangeShapes Go.WideShapes Go.ChangeAt Mp

theorem bytesLess_eq : ∀ (x y : List UInt8), Op.bytesLess x y = decide (x < y)
  | [], [] => rfl
  | [], b :: y => by simp [Op.bytesLess]
  | a :: x, [] => by simp [Op.bytesLess]
  | a :: x, b :: y => by
    simp only [Op.bytesLess, bytesLess_eq x y, List.cons_lt_cons_iff]
    rw [Bool.eq_iff_iff]
    simp
def bt (s : ByteArray) : List UInt8 := s.data.toList
theorem bt_inj {a b : ByteArray} (h : bt a = bt b) : a = b := bytes_inj h
theorem strLe_eq (a b : ByteArray) : strLe a b = decide (bt a ≤ bt b) := by
  unfold strLe
  rw [bytesLess_eq, ByteArray.toList_eq, ByteArray.toList_eq, Bool.eq_iff_iff]
  simp only [Bool.or_eq_true, decide_eq_true_eq, beq_iff_eq]
  show _ ↔ bt a ≤ bt b
  rw [List.le_iff_lt_or_eq]
  rfl
def Rising (l : List ByteArray) : Prop := l.Pairwise fun a b => bt a < bt b
theorem putR_true (l : List ByteArray) (s : ByteArray) : putR l s true = l.filter fun x => !decide (x = s) := by
  induction l with
  | nil => rfl
  | cons x r ih =>
    simp only [putR, Bool.not_true, Bool.false_and, Bool.false_eq_true, if_false, Bool.true_or, ih, List.nil_append, List.filter_cons]
    by_cases h : x = s <;> simp [h]
theorem putR_rising : ∀ (l : List ByteArray) (s : ByteArray), Rising l → Rising (putR l s false)
  | [], s, _ => by simp [putR, Rising]
  | x :: r, s, h => by
    obtain ⟨h1, h2⟩ := List.pairwise_cons.1 h
    simp only [putR, Bool.not_false, Bool.true_and, Bool.false_or]
    cases hle : strLe s x with
    | true =>
      rw [strLe_eq, decide_eq_true_eq] at hle
      have e : (if x = s then [] else [x]) ++ putR r s true = (x :: r).filter fun y => !decide (y = s) := by
        rw [putR_true, List.filter_cons]
        by_cases hx : x = s <;> simp [hx]
      rw [if_pos rfl, e]
      refine List.pairwise_cons.2 ⟨fun y hy => ?_, h.filter _⟩
      obtain ⟨hy1, hy2⟩ := List.mem_filter.1 hy
      have hne : ¬ y = s := by simpa using hy2
      have hsy : bt s ≤ bt y := by
        rcases List.mem_cons.1 hy1 with rfl | hr
        · exact hle
        · exact List.le_trans hle (List.le_of_lt (h1 y hr))
      rcases List.le_iff_lt_or_eq.1 hsy with h3 | h3
      · exact h3
      · exact absurd (bt_inj h3).symm hne
    | false =>
      rw [strLe_eq, decide_eq_false_iff_not] at hle
      have hlt : bt x < bt s := List.not_le.1 hle
      have hne : ¬ x = s := fun e => by rw [e] at hlt; exact List.lt_irrefl _ hlt
      rw [if_neg (by simp), if_neg hne, List.nil_append, List.singleton_append]
      refine List.pairwise_cons.2 ⟨fun y hy => ?_, putR_rising r s h2⟩
      rcases (mem_putR r s false).1 hy with ⟨h3, _⟩ | ⟨rfl, _⟩
      · exact h1 y h3
      · exact hlt
theorem boxesS_rising (l : List Hd) : Rising (boxesS l) := by
  have : ∀ (l : List Hd) (out : List ByteArray), Rising out → Rising (l.foldl (fun out h => putS out h.box) out) := by
    intro l
    induction l with
    | nil => exact fun out h => h
    | cons h r ih => exact fun out ho => ih _ (putR_rising out h.box ho)
  exact this l [] (by simp [Rising])
theorem rising_nodup {l : List ByteArray} (h : Rising l) : l.Nodup := h.imp fun {a b} hab e => by rw [e] at hab; exact List.lt_irrefl _ hab

/-- Sorted, whatever order the keys came in. -/
theorem sorted_boxes {ks bs : List ByteArray} {ss : List (List UInt8)} (hs : ss.Perm (ks.map bt)) (hk : ks.Nodup) (hb : Rising bs) (hm : ∀ x, x ∈ ks ↔ x ∈ bs) : ss.mergeSort (fun x y => decide (x ≤ y)) = bs.map bt := by
  have hp : ks.Perm bs := (List.perm_ext_iff_of_nodup hk (rising_nodup hb)).2 hm
  have h1 : ss.mergeSort leB = (bs.map bt).mergeSort leB := mergeSort_of_perm (hs.trans (hp.map bt))
  have h2 : (bs.map bt).Pairwise (fun a b => leB a b = true) := by
    rw [List.pairwise_map]
    exact hb.imp fun {a b} hab => decide_eq_true (List.le_of_lt hab)
  exact h1.trans (List.mergeSort_of_pairwise h2)

/-- A map of few keys is one of the kit's. -/
theorem kit_map {w : World} {bm : Nat} {l : Ents} (h : MapAt w bm l) (hk : ∀ k ∈ mkeys l, k.size ≤ maxLen) (hl : l.length ≤ maxLen) :
    ∃ nn D0, w.ownsMap Try.prog 9 (fun _ => some ((.nil : DataW Unit), [])) bm nn D0 ∧ Maps.size D0 = l.length ∧ (strKeys D0).Perm ((mkeys l).map bt) := by
  obtain ⟨es, clock, hb, hf, hn, hc, hd⟩ := h
  have hrd : ∀ {es : List MapEntry} {l : Ents}, Likes es l → (∀ k ∈ mkeys l, k.size ≤ maxLen) → (∀ x ∈ es, ∃ y, WideElems.rd Try.prog 9 (fun _ => some ((.nil : DataW Unit), [])) x = some y) ∧
      (es.map (WideElems.rg Try.prog 9 (fun _ => some ((.nil : DataW Unit), [])))) = (mkeys l).map fun k => (Lit.string k.data.toList, (.nil : DataW Unit)) := by
    intro es
    induction es with
    | nil =>
      intro l hl _
      cases l with
      | nil => exact ⟨by simp, rfl⟩
      | cons p l => exact hl.elim
    | cons e es ih =>
      intro l hl hk
      cases l with
      | nil => exact hl.elim
      | cons p l =>
        obtain ⟨⟨h1, h2⟩, h3⟩ := hl
        obtain ⟨i1, i2⟩ := ih h3 (fun k hk' => hk k (List.mem_cons_of_mem _ hk'))
        have hr : WideElems.rd Try.prog 9 (fun _ => some ((.nil : DataW Unit), [])) e = some (.string p.1.data.toList, .nil) := by
          unfold WideElems.rd
          rw [h1, WideMaps.keyOf_string_mk Try.underlying9 (hk p.1 (by simp [mkeys]))]
          rfl
        refine ⟨fun x hx => ?_, ?_⟩
        · rcases List.mem_cons.1 hx with rfl | hx
          · exact ⟨_, hr⟩
          · exact i1 x hx
        · rw [List.map_cons, i2, WideElems.rg, hr]
          rfl
  obtain ⟨r1, r2⟩ := hrd hf hk
  have hlen := hf.length
  have hks : (es.toList.map MapEntry.key) = (mkeys l).map Value.string := by
    have : ∀ {es : List MapEntry} {l : Ents}, Likes es l → es.map MapEntry.key = (mkeys l).map Value.string := by
      intro es
      induction es with
      | nil => intro l hl; cases l with | nil => rfl | cons p l => exact hl.elim
      | cons e es ih => intro l hl; cases l with | nil => exact hl.elim | cons p l => simp only [List.map_cons, hl.1.1, ih hl.2, mkeys]
    exact this hf
  refine ⟨es.size, _, ⟨es, clock, hb, ⟨?_, ⟨hc, hn, ?_⟩, r1⟩, Nat.le_refl _, rfl⟩, ?_, ?_⟩
  · rw [← Array.length_toList, hlen]; exact hl
  · rw [hks]
    exact List.Pairwise.map Value.string (fun a b hab e => hab (by simpa using e)) hd
  · rw [Maps.size_eq, length_sorted, List.length_map, hlen]
  · unfold strKeys
    refine ((sorted_perm _).map _).trans ?_
    rw [r2, List.map_map]
    exact List.Perm.refl _
end Go.Proofs.Ytmjblefjaccocaa.Sc
