/- The things that are pledged: the map's keys, sorted: by the program. -/
import Derived.Test.YtnlfhncbnfmccaaDone26
import Derived.Test.YtnlfhncbnfmccaaLaysK26
import Derived.Test.YtnlfhncbnfmccaaBt
import Derived.Sort.KeysCollected
namespace Go.Proofs.Ytnlfhncbnfmccaa.Sc
open Go Go.RowKit Go.ChangeShapes Go.WideShapes Go.ChangeAt Mp Go.Sort
set_option maxRecDepth 100000

def Rising (l : List ByteArray) : Prop := l.Pairwise fun a b => bt a < bt b
theorem rising_nodup {l : List ByteArray} (h : Rising l) : l.Nodup := h.imp fun {a b} hab e => by rw [e] at hab; exact List.lt_irrefl _ hab
/-- One text more, in its place; not twice. -/
def tIns : List ByteArray → ByteArray → List ByteArray
  | [], s => [s]
  | x :: r, s => if bt x < bt s then x :: tIns r s else if x = s then x :: r else s :: x :: r
theorem mem_tIns : ∀ {l : List ByteArray} {s t : ByteArray}, t ∈ tIns l s ↔ t ∈ l ∨ t = s
  | [], s, t => by simp [tIns]
  | x :: r, s, t => by
    rw [tIns]
    split
    · rw [List.mem_cons, mem_tIns, List.mem_cons, or_assoc]
    · split
      · rename_i h
        subst h
        simp only [List.mem_cons]
        exact ⟨fun h => .inl h, fun h => h.elim id fun h => .inl h⟩
      · simp only [List.mem_cons]
        exact ⟨fun h => h.elim .inr .inl, fun h => h.elim .inr .inl⟩
theorem tIns_rising : ∀ {l : List ByteArray} (s : ByteArray), Rising l → Rising (tIns l s)
  | [], s, _ => List.pairwise_singleton _ _
  | x :: r, s, h => by
    obtain ⟨h1, h2⟩ := List.pairwise_cons.1 h
    rw [tIns]
    split
    · rename_i hx
      refine List.pairwise_cons.2 ⟨fun y hy => ?_, tIns_rising s h2⟩
      rcases mem_tIns.1 hy with h3 | rfl
      · exact h1 y h3
      · exact hx
    · rename_i hx
      split
      · exact h
      · rename_i hne
        have hsx : bt s < bt x := by
          rcases List.le_iff_lt_or_eq.1 (List.not_lt.1 hx) with h3 | h3
          · exact h3
          · exact absurd (bt_inj h3).symm hne
        refine List.pairwise_cons.2 ⟨fun y hy => ?_, h⟩
        rcases List.mem_cons.1 hy with rfl | h3
        · exact hsx
        · exact List.lt_trans hsx (h1 y h3)
theorem tIns_len : ∀ (l : List ByteArray) (s : ByteArray), (tIns l s).length ≤ l.length + 1
  | [], s => by simp [tIns]
  | x :: r, s => by
    have := tIns_len r s
    rw [tIns]
    split
    · simp; omega
    · split <;> simp
/-- The things of pledges, rising. -/
def thR (l : List Pg) : List ByteArray := l.foldl (fun o p => tIns o p.thing) []
theorem thF_rising : ∀ (l : List Pg) {o : List ByteArray}, Rising o → Rising (l.foldl (fun o p => tIns o p.thing) o)
  | [], _, h => h
  | p :: r, _, h => thF_rising r (tIns_rising p.thing h)
theorem thR_rising (l : List Pg) : Rising (thR l) := thF_rising l List.Pairwise.nil
theorem mem_thF {t : ByteArray} : ∀ (l : List Pg) {o : List ByteArray}, t ∈ l.foldl (fun o p => tIns o p.thing) o ↔ t ∈ o ∨ ∃ p ∈ l, p.thing = t
  | [], o => by simp
  | p :: r, o => by
    rw [List.foldl_cons, mem_thF r, mem_tIns]
    simp only [List.mem_cons, exists_eq_or_imp, or_assoc]
    constructor
    · rintro (h | h | h)
      · exact .inl h
      · exact .inr (.inl h.symm)
      · exact .inr (.inr h)
    · rintro (h | h | h)
      · exact .inl h
      · exact .inr (.inl h.symm)
      · exact .inr (.inr h)
theorem mem_thR {l : List Pg} {t : ByteArray} : t ∈ thR l ↔ ofT l t ≠ [] := by
  rw [thR, mem_thF]
  constructor
  · rintro (h | ⟨p, hp, rfl⟩)
    · cases h
    · exact List.ne_nil_of_mem (ofT_mem.2 ⟨hp, rfl⟩)
  · intro h
    obtain ⟨p, hp⟩ := List.exists_mem_of_ne_nil _ h
    exact .inr ⟨p, (ofT_mem.1 hp).1, (ofT_mem.1 hp).2⟩
theorem thF_len : ∀ (l : List Pg) (o : List ByteArray), (l.foldl (fun o p => tIns o p.thing) o).length ≤ o.length + l.length
  | [], o => by simp
  | p :: r, o => by
    have h1 := thF_len r (tIns o p.thing)
    have h2 := tIns_len o p.thing
    rw [List.foldl_cons, List.length_cons]
    omega
theorem thR_len (l : List Pg) : (thR l).length ≤ l.length := by
  have h := thF_len l []
  rw [List.length_nil, Nat.zero_add] at h
  exact h
/-- Sorted, whatever order the keys came in. -/
theorem sorted_keys {ks bs : List ByteArray} {ss : List (List UInt8)} (hs : ss.Perm (ks.map bt)) (hk : ks.Nodup) (hb : Rising bs) (hm : ∀ x, x ∈ ks ↔ x ∈ bs) : ss.mergeSort (fun x y => decide (x ≤ y)) = bs.map bt := by
  have hp : ks.Perm bs := (List.perm_ext_iff_of_nodup hk (rising_nodup hb)).2 hm
  have h1 : ss.mergeSort leB = (bs.map bt).mergeSort leB := mergeSort_of_perm (hs.trans (hp.map bt))
  have h2 : (bs.map bt).Pairwise (fun a b => leB a b = true) := by
    rw [List.pairwise_map]
    exact hb.imp fun {a b} hab => decide_eq_true (List.le_of_lt hab)
  exact h1.trans (List.mergeSort_of_pairwise h2)
/-- A map of few keys is one of the kit's. -/
theorem kit_map {w : World} {bm : Nat} {l : Ents} (h : MapAt w bm l) (hk : ∀ k ∈ mkeys l, k.size ≤ maxLen) (hl : l.length ≤ maxLen) :
    ∃ nn D0, w.ownsMap Try.prog 9 (fun _ => some ((.nil : DataW Unit), [])) bm nn D0 ∧ Maps.size D0 = l.length ∧ (strKeys D0).Perm ((mkeys l).map bt) := by
  obtain ⟨es, clock, hb, hf, hn, hc, hd⟩ := h
  have hrd : ∀ {es : List MapEntry} {l : Ents}, Likes es l → (∀ k ∈ mkeys l, k.size ≤ maxLen) → (∀ x ∈ es, ∃ y, WideElems.rd Try.prog 9 (fun _ => some ((.nil : DataW Unit), [])) x = some y) ∧
      (es.map (WideElems.rg Try.prog 9 (fun _ => some ((.nil : DataW Unit), [])))) = (mkeys l).map fun k => (Lit.string k.data.toList, (.nil : DataW Unit)) := by
    intro es
    induction es with
    | nil =>
      intro l hl _
      cases l with
      | nil => exact ⟨by simp, rfl⟩
      | cons p l => exact hl.elim
    | cons e es ih =>
      intro l hl hk
      cases l with
      | nil => exact hl.elim
      | cons p l =>
        obtain ⟨⟨h1, h2⟩, h3⟩ := hl
        obtain ⟨i1, i2⟩ := ih h3 (fun k hk' => hk k (List.mem_cons_of_mem _ hk'))
        have hr : WideElems.rd Try.prog 9 (fun _ => some ((.nil : DataW Unit), [])) e = some (.string p.1.data.toList, .nil) := by
          unfold WideElems.rd
          rw [h1, WideMaps.keyOf_string_mk Try.underlying9 (hk p.1 (by simp [mkeys]))]
          rfl
        refine ⟨fun x hx => ?_, ?_⟩
        · rcases List.mem_cons.1 hx with rfl | hx
          · exact ⟨_, hr⟩
          · exact i1 x hx
        · rw [List.map_cons, i2, WideElems.rg, hr]
          rfl
  obtain ⟨r1, r2⟩ := hrd hf hk
  have hlen := hf.length
  have hks : (es.toList.map MapEntry.key) = (mkeys l).map Value.string := by
    have : ∀ {es : List MapEntry} {l : Ents}, Likes es l → es.map MapEntry.key = (mkeys l).map Value.string := by
      intro es
      induction es with
      | nil => intro l hl; cases l with | nil => rfl | cons p l => exact hl.elim
      | cons e es ih => intro l hl; cases l with | nil => exact hl.elim | cons p l => simp only [List.map_cons, hl.1.1, ih hl.2, mkeys]
    exact this hf
  refine ⟨es.size, _, ⟨es, clock, hb, ⟨?_, ⟨hc, hn, ?_⟩, r1⟩, Nat.le_refl _, rfl⟩, ?_, ?_⟩
  · rw [← Array.length_toList, hlen]; exact hl
  · rw [hks]
    exact List.Pairwise.map Value.string (fun a b hab e => hab (by simpa using e)) hd
  · rw [Maps.size_eq, length_sorted, List.length_map, hlen]
  · unfold strKeys
    refine ((sorted_perm _).map _).trans ?_
    rw [r2, List.map_map]
    exact List.Perm.refl _
theorem enc_bt (l : List ByteArray) : (l.map bt).map encStr = l.map Value.string := by
  rw [List.map_map]
  refine List.map_congr_left fun s _ => ?_
  simp [bt]
theorem name_size {s : ByteArray} (h : nameOk s = true) : s.size ≤ 1000 := by
  unfold nameOk at h
  simp only [Bool.and_eq_true, decide_eq_true_eq] at h
  omega
set_option maxHeartbeats 2000000 in
theorem things_any {w : World} {F : Nat → Prop} {bk bm : Nat} {l : List Pg} (h : Lx w F bk bm l) (hok : LnOk l) (hl : l.length ≤ 4000) :
    Calls Try.prog 20 #[.pointer (some ⟨bk, 0, none⟩)] w (RetRow w 9 1 (thR l).length ((thR l).map Value.string)) := by
  obtain ⟨es, h⟩ := h
  have hkeys : ∀ k, k ∈ mkeys es ↔ k ∈ thR l := by
    intro k
    rw [mem_thR]
    constructor
    · intro hk
      cases hm : mget es k with
      | none => exact absurd hk (mget_none.1 hm)
      | some v => exact (h.rows k v hm).2
    · intro hk
      cases hm : mget es k with
      | none => exact absurd (h.miss k hm) hk
      | some v => exact Classical.not_not.1 fun hn => by rw [mget_none.2 hn] at hm; cases hm
  have hel : es.length = (thR l).length := by
    have := ((List.perm_ext_iff_of_nodup h.map.nodup (rising_nodup (thR_rising l))).2 hkeys).length_eq
    simpa [mkeys] using this
  have hel4 : es.length ≤ 4000 := by have := thR_len l; omega
  obtain ⟨nn, D0, ho, hsz, hpm⟩ := kit_map h.map (fun k hk => by
    obtain ⟨p, hp⟩ := List.exists_mem_of_ne_nil _ (mem_thR.1 ((hkeys k).1 hk))
    obtain ⟨h1, h2⟩ := ofT_mem.1 hp
    have := name_size (hok.fit p h1).2.2.2.1
    rw [h2] at this
    simp only [maxLen]
    omega) (by simp only [maxLen]; omega)
  have hmax : Maps.size D0 ≤ maxLen := by rw [hsz]; simp only [maxLen]; omega
  have hby : Maps.size D0 * 16 ≤ 140737488355328 := by rw [hsz]; omega
  have HO := Lib.hid ho
  have HM := Lib.hid hmax
  have HB := Lib.hid hby
  have HP := Lib.hid hpm
  have HK := Lib.hid hkeys
  have HND := Lib.hid h.map.nodup
  have HEL := Lib.hid hel
  have c0 := cell_blk h.box 0
  have HR := Lib.hid (thR_rising l)
  generalize thR l = bs at *
  clear ho hmax hby hpm hkeys hel hel4 hsz h hok hl
  go_enter Try.func20, Try.ntmps20
  go_wp2_with (first
    | ((with_reducible refine ((callsIn_wide (n := 5)).1 (Try.maps_Keys_34 (some bm) w)).mono ?_); rintro e w1 ⟨rfl, rfl⟩)
    | ((with_reducible refine ((callsIn_wide (n := 5)).1 (Try.slices_Sorted_keys_33_34 bm nn D0 _ w HO.out HM.out HB.out)).mono ?_); rintro e w2 ⟨v, ss, rfl, hS, hrow, hnil, hb⟩)
    | fail)
  go_ret
  rw [sorted_keys (hS.trans HP.out) HND.out HR.out HK.out, enc_bt] at hrow
  have hl : ss.length = bs.length := by
    have h1 := (hS.trans HP.out).length_eq
    have h2 := ((List.perm_ext_iff_of_nodup HND.out (rising_nodup HR.out)).2 HK.out).length_eq
    rw [h1, List.length_map, h2]
  rw [hl] at hrow
  exact retRow hrow (by simp) ((one_below w _).trans (hb.mono (by simp)))
end Go.Proofs.Ytnlfhncbnfmccaa.Sc
