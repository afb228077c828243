/- The goods of a map, rising; Join by the program. Maps with texts for keys: an entry deleted, also while a range goes over the map. No program in sight. The entries of nothing deleted: the library's DeleteFunc at the program's closure, walked. -/
import Derived.Test.YtnbhneeohkfocaaDoorTo11
import Derived.Test.YtnbhneeohkfocaaDoorTo03
namespace Go.Proofs.YtnbhneeohkfocaaDoor.Mp
open Go Go.RowKit
def itLeft (w : World) (r b : Nat) : Nat :=
  match w.heap[r]?, w.heap[b]? with
  | some (.mapIter _ _ seen _), some (.map es _) => (leftOf es seen).size
  | _, _ => 0
theorem itLeft_eq {w : World} {r b : Nat} {l todo : Ents} (h : IterAt w r b l todo) : itLeft w r b = todo.length := by
  obtain ⟨es, clock, since, seen, c0, hr, hb, _, _, _, _, _, _, hl⟩ := h
  unfold itLeft
  rw [hr, hb]
  have := hl.length
  simpa using this
theorem mdel_nodup {l : Ents} (k : ByteArray) (h : (mkeys l).Nodup) : (mkeys (mdel l k)).Nodup := by
  have : (mkeys (mdel l k)).Sublist (mkeys l) := List.filter_sublist.map _
  exact this.nodup h
theorem mdel_lt {l : Ents} {k : ByteArray} {v : Value} (h : (k, v) ∈ l) : (mdel l k).length < l.length := by
  rcases Nat.lt_or_ge (mdel l k).length l.length with h1 | h1
  · exact h1
  · exfalso
    have h2 := List.length_filter_le (fun p : ByteArray × Value => !decide (k = p.1)) l
    have h3 : (mdel l k).length = l.length := Nat.le_antisymm h2 h1
    have h4 := List.length_filter_eq_length_iff.1 h3 (k, v) h
    simp at h4
theorem perm_mdel {key : ByteArray} {v : Value} : ∀ {l : Ents}, (mkeys l).Nodup → (key, v) ∈ l → l.Perm ((key, v) :: mdel l key)
  | [], _, h => by simp at h
  | p :: r, hn, h => by
    simp only [mkeys, List.map_cons, List.nodup_cons] at hn
    rcases List.mem_cons.1 h with rfl | h'
    · have : mdel ((key, v) :: r) key = r := by
        rw [mdel, List.filter_cons_of_neg (by simp)]
        refine List.filter_eq_self.2 fun q hq => ?_
        have : ¬ key = q.1 := fun e => hn.1 (List.mem_map.2 ⟨q, hq, e.symm⟩)
        simp [this]
      rw [this]
    · have hk : ¬ key = p.1 := fun e => hn.1 (List.mem_map.2 ⟨(key, v), h', e⟩)
      have : mdel (p :: r) key = p :: mdel r key := by rw [mdel, List.filter_cons_of_pos (by simp [hk])]; rfl
      rw [this]
      exact ((perm_mdel hn.2 h').cons p).trans (List.Perm.swap _ _ _)
end Go.Proofs.YtnbhneeohkfocaaDoor.Mp
namespace Go.Proofs.YtnbhneeohkfocaaDoor.Sc
open Go Go.RowKit Go.ChangeShapes Go.WideShapes Go.ChangeAt
set_option maxRecDepth 100000

theorem size_al (w : World) (o : Obj) : (w.alloc o).heap.size = w.heap.size + 1 := by simp
def cntV : Value → Int
  | .int _ c => c
  | _ => 0
def entLots (es : Mp.Ents) : List Lt := es.map fun p => ⟨p.1, cntV p.2⟩
theorem ent_val {es : Mp.Ents} {L : List Lt} (h : CntOf es L) (hn : (Mp.mkeys es).Nodup) {p : ByteArray × Value} (hp : p ∈ es) : ∃ c : Int, p.2 = .int .i64 c ∧ 0 < c ∧ posTot L p.1 = c := by
  have h1 := Mp.mget_of_mem hn hp
  rw [h p.1] at h1
  split at h1
  · exact ⟨_, (Option.some.inj h1).symm, by assumption, rfl⟩
  · cases h1
theorem ent_perm {es : Mp.Ents} {L : List Lt} (h : CntOf es L) (hn : (Mp.mkeys es).Nodup) (hL : Norm L) : (entLots es).Perm L := by
  rw [List.perm_ext_iff_of_nodup]
  · intro x
    rw [mem_norm hL]
    constructor
    · intro hx
      obtain ⟨p, hp, rfl⟩ := List.mem_map.1 hx
      obtain ⟨c, hc, h0, h1⟩ := ent_val h hn hp
      simp only [hc, cntV]
      exact ⟨h0, h1⟩
    · rintro ⟨h0, h1⟩
      have h2 := h x.good
      rw [h1, if_pos h0] at h2
      exact List.mem_map.2 ⟨_, Mp.mem_of_mget h2, rfl⟩
  · refine List.Pairwise.map _ (fun a b (hab : a.1 ≠ b.1) e => hab (by simpa using congrArg Lt.good e)) ?_
    exact List.pairwise_map.1 hn
  · exact hL.up.imp fun {a b} hab e => by rw [e] at hab; exact List.lt_irrefl _ hab
/-- Sorted, whatever order they came in. -/
theorem sorted_lots {D L : List Lt} (hs : D.Pairwise fun a b => ¬ bt b.good < bt a.good) (hp : D.Perm L) (hL : Norm L) : D = L := by
  have hn := norm_goods hL
  refine List.Perm.eq_of_pairwise (le := fun a b => ¬ bt b.good < bt a.good) (fun a b ha hb h1 h2 => ?_) hs (hL.up.imp fun {a b} hab h => List.lt_irrefl _ (List.lt_trans hab h)) hp
  have e : a.good = b.good := bt_inj (List.le_antisymm (List.not_lt.1 h1) (List.not_lt.1 h2))
  have h3 := posTot_of hL (hp.mem_iff.1 ha)
  have h4 := posTot_of hL hb
  obtain ⟨ag, ac⟩ := a
  obtain ⟨bg, bc⟩ := b
  simp only at e h3 h4
  subst e
  rw [h3] at h4
  rw [h4]
theorem entLots_append (a b : Mp.Ents) : entLots (a ++ b) = entLots a ++ entLots b := by simp [entLots]
theorem ltCells_append (a b : List Lt) : ltCells (a ++ b) = ltCells a ++ ltCells b := by simp [ltCells]
theorem infoLt : (Tryd.prog.info? 59).map (fun i => (i.zero, i.size, i.bytes)) = some (some (.agg #[.string ⟨#[]⟩, .int .i64 0]), 2, 24) := by kernel_rfl
theorem lt_one (n : ByteArray) (c : Int) : ∀ u ∈ (#[Value.string n, .int .i64 c] : Array Value).toList, u.oneCell' = true := by
  intro u hu
  simp at hu
  rcases hu with rfl | rfl <;> rfl
theorem own_lots {w : World} {B n : Nat} {v : Value} {l : List Lt} (h : w.ownsRow B 59 2 v n (ltCells l)) (hn : n = l.length) : Sl w 2 v (l.map Lt.row) := by
  rw [ltCells_flat] at h
  exact own_sl h (by simpa using hn) (lt_rows l)
set_option maxHeartbeats 4000000 in
theorem rising_any (es : Mp.Ents) (L : List Lt) (bm : Nat) (w : World) (hm : Mp.MapAt w bm es) (hc : CntOf es L) (hL : Norm L) (hl : es.length ≤ 100000) :
    Calls Tryd.prog 50 #[.map (some bm)] w (RetRow w 59 2 L.length (ltCells L)) := by
  have HM := Lib.hid hm
  have HND := Lib.hid hm.nodup
  have HCN := Lib.hid hc
  have HNL := Lib.hid hL
  have HLEN := Lib.hid hl
  obtain ⟨i0, hi, hz, hsz, hby⟩ := info_parts infoLt
  have HI := Lib.hid (And.intro hi (And.intro hz (And.intro hsz hby)))
  clear hi hz hsz hby hm hc hL hl
  go_enter Tryd.func50, Tryd.ntmps50
  go_wp2_with (first
    | ((with_reducible refine Mp.wpl_range (b := bm) (l := es) ?_ ?_ Tryd.underlying92 HM.out ?_); rfl; rfl; intro w1 hit ha; have HIT := Lib.hid hit; have HB1 : Hid (Below w.heap.size w w1) := Lib.hid (by obtain ⟨o, rfl⟩ := ha; exact one_below _ _); clear hit ha; go_frame)
    | fail)
  obtain ⟨r, hr⟩ : ∃ r, r = w.heap.size := ⟨_, rfl⟩
  have HR := Lib.hid hr
  rw [← hr] at HIT ⊢
  clear hr
  have HRW : Hid (r < w1.heap.size) := Lib.hid HIT.out.lt.1
  have HMW : Hid (bm < w1.heap.size) := Lib.hid HIT.out.lt.2
  go_loopw [3, 4, 5] (fun o _ _ wr => ∃ done todo : Mp.Ents, Mp.IterAt wr r bm es todo ∧ (done ++ todo).Perm es ∧ wr.ownsRow w1.heap.size 59 2 o (entLots done).length (ltCells (entLots done)) ∧ Below w.heap.size w wr ∧ w1.heap.size ≤ wr.heap.size) (fun _ _ _ wr => Mp.itLeft wr r bm)
  case atStart => exact ⟨[], es, HIT.out, List.Perm.refl _, World.ownsRow_nil _ _ _ _, HB1.out, Nat.le_refl _⟩
  case round =>
    obtain ⟨done, todo, hit, hp, hown, hbel, hsz⟩ := hrel
    have HIT2 := Lib.hid hit
    have HP2 := Lib.hid hp
    have HOWN := Lib.hid hown
    have HBEL := Lib.hid hbel
    have HSZ := Lib.hid hsz
    have HDL : Hid ((entLots done).length ≤ 100000) := Lib.hid (by
      have h2 := hp.length_eq
      have h3 := HLEN.out
      rw [List.length_append] at h2
      rw [entLots, List.length_map]
      omega)
    clear hit hp hown hbel hsz
    go_wp2_with (first
      | ((with_reducible refine Mp.wpl_next ?_ ?_ HIT2.out ?_ ?_); rfl; rfl)
      | fail)
    · intro h0
      have HT := Lib.hid h0
      clear h0
      have HSO := Lib.hid (fun W h => sortLots_any (entLots done) u3 (entLots done).length w1.heap.size W h rfl (by have := HDL.out; omega))
      have HPD : Hid ((entLots done).Perm L) := Lib.hid (by
        have := HP2.out
        rw [HT.out, List.append_nil] at this
        exact (this.map _).trans (ent_perm HCN.out HND.out HNL.out))
      go_wp2_with (first
        | ((with_reducible refine (HSO.out _ HOWN.out).mono ?_); rintro e w3 ⟨rfl, D', hp3, hs3, ho3, hg3⟩; have HS3 := Lib.hid (And.intro hp3 hs3); have HO3 := Lib.hid ho3; have HG3 := Lib.hid hg3; clear hp3 hs3 ho3 hg3)
        | fail)
      go_ret
      have hD := sorted_lots HS3.out.2 (HS3.out.1.trans HPD.out) HNL.out
      have ho := HO3.out
      rw [hD, HPD.out.length_eq] at ho
      exact retRow ho HB1.out.size (HBEL.out.grown HG3.out HBEL.out.size (fun k hk => Nat.le_trans HB1.out.size (HOWN.out.lt k hk).1))
    · intro key sv wc hmem hitc hgc hsc hen
      have HMEM := Lib.hid hmem
      have HITC := Lib.hid hitc
      obtain ⟨c, hcv, -, -⟩ := ent_val HCN.out HND.out (HP2.out.mem_iff.1 (List.mem_append.2 (.inr hmem)))
      simp only at hcv
      subst hcv
      have HBC : Hid (Below w.heap.size w wc) := Lib.hid (HBEL.out.grown hgc HBEL.out.size (fun k hk => by have := HR.out; have e' := Option.some.inj hk; omega))
      have HSC : Hid (w1.heap.size ≤ wc.heap.size) := Lib.hid (Nat.le_trans HSZ.out hgc.size)
      have HOC : Hid (wc.ownsRow w1.heap.size 59 2 u3 (entLots done).length (ltCells (entLots done))) := Lib.hid (ownsRow_keep HOWN.out (Keep.of_grown hgc) (ownsRow_off HOWN.out (fun b hb _ e => by have := HRW.out; have e' := Option.some.inj e; omega)))
      have hnt : (Mp.mkeys todo).Nodup := by
        have hnd : (Mp.mkeys (done ++ todo)).Nodup := (HP2.out.map Prod.fst).nodup_iff.2 HND.out
        rw [Mp.mkeys, List.map_append, List.nodup_append] at hnd
        exact hnd.2.1
      have HPD : Hid ((done ++ [(key, Value.int .i64 c)] ++ Mp.mdel todo key).Perm es) := Lib.hid (by
        refine List.Perm.trans ?_ HP2.out
        rw [List.append_assoc]
        exact (Mp.perm_mdel hnt hmem).symm.append_left done)
      have HL : Hid ((entLots done).length + 1 ≤ maxLen ∧ ((entLots done).length + 1) * 24 ≤ 140737488355328 ∧ w1.heap.size ≤ wc.heap.size) := Lib.hid (by
        have := HDL.out
        have := HSC.out
        simp only [maxLen]
        omega)
      have HDS : Hid (entLots (done ++ [(key, Value.int .i64 c)]) = entLots done ++ [Lt.mk key c]) := Lib.hid (by rw [entLots_append]; rfl)
      clear hmem hitc hgc hsc hnt
      generalize entLots done = D at *
      go_wp2_with (first
        | (((with_reducible refine Any.wpl_push ?_ ?_ ?_ Tryd.underlying39 HI.out.1 HI.out.2.1 HI.out.2.2.1 HI.out.2.2.2 ?_ (by decide) ?_ (lt_one key c) (HOC.out) HL.out.1 HL.out.2.1 HL.out.2.2 ?_); rfl; rfl; rfl; rfl; rfl; intro v1 w1 hown1 hgrow1 hwho1); have HOWN1 := Lib.hid hown1; have HG1 := Lib.hid hgrow1; clear hown1 hgrow1 hwho1)
        | fail)
      go_roundw
      case rel =>
        refine ⟨done ++ [(key, Value.int .i64 c)], Mp.mdel todo key, ?_, HPD.out, ?_, HBC.out.grown HG1.out HBC.out.size (fun k hk => Nat.le_trans HB1.out.size (HOC.out.lt k hk).1), Nat.le_trans HSC.out HG1.out.size⟩
        · exact HITC.out.same (HG1.out.block r HITC.out.lt.1 (fun e => by have := (HOC.out.lt r e.symm).1; have := HRW.out; omega)) (HG1.out.block bm HITC.out.lt.2 (fun e => by have := (HOC.out.lt bm e.symm).1; have := HMW.out; omega))
        · rw [HDS.out]
          have := HOWN1.out
          simpa [ltCells, Lt.row] using this
      case measure =>
        rw [Mp.itLeft_eq (HITC.out.same (HG1.out.block r HITC.out.lt.1 (fun e => by have := (HOC.out.lt r e.symm).1; have := HRW.out; omega)) (HG1.out.block bm HITC.out.lt.2 (fun e => by have := (HOC.out.lt bm e.symm).1; have := HMW.out; omega))), Mp.itLeft_eq HIT2.out]
        exact Mp.mdel_lt HMEM.out
theorem cntOf_tot {es : Mp.Ents} {l m : List Lt} (h : CntOf es l) (e : ∀ n, posTot m n = posTot l n) : CntOf es m := fun n => by rw [e n]; exact h n
theorem can_both (l m : List Lt) : canTake (l ++ m) m := fun n => by
  rw [posTot_append]; have := posTot_nonneg l n; omega
theorem left_both (l m : List Lt) : leftL (l ++ m) m = joinL l := norm_ext (leftL_norm (can_both l m)) (joinL_norm l) fun n => by
  rw [leftL_tot (can_both l m), posTot_append, joinL_tot]; omega
theorem join_both (l m : List Lt) : joinL (joinL l ++ m) = joinL (l ++ m) := norm_ext (joinL_norm _) (joinL_norm _) fun n => by
  rw [joinL_tot, joinL_tot, posTot_append, posTot_append, joinL_tot]
theorem can_self (l : List Lt) : canTake l l := fun _ => Int.le_refl _
theorem left_self (l : List Lt) : leftL l l = [] := norm_ext (leftL_norm (can_self l)) (show Norm [] from joinL_norm []) fun n => by
  rw [leftL_tot (can_self l), Int.sub_self]; rfl
theorem jIns_length (L : List Lt) (x : Lt) : (jIns L x).length ≤ L.length + 1 := by
  induction L with
  | nil => simp [jIns]
  | cons y r ih =>
    rw [jIns]
    split
    · simp only [List.length_cons]; omega
    · split
      · simp only [List.length_cons]; omega
      · simp only [List.length_cons]; omega
theorem joinL_length (l : List Lt) : (joinL l).length ≤ l.length := by
  have : ∀ (l out : List Lt), (l.foldl (fun out x => if x.cnt < 1 then out else jIns out x) out).length ≤ out.length + l.length := by
    intro l
    induction l with
    | nil => intro out; simp
    | cons x r ih =>
      intro out
      rw [List.foldl_cons, List.length_cons]
      refine Nat.le_trans (ih _) ?_
      split
      · omega
      · have := jIns_length out x; omega
  have h := this l []
  rwa [List.length_nil, Nat.zero_add] at h
end Go.Proofs.YtnbhneeohkfocaaDoor.Sc
namespace Go.Proofs.YtnbhneeohkfocaaDoor.Mp
open Go Go.RowKit
set_option maxRecDepth 100000

theorem erase_filter : ∀ {es : List MapEntry} {j : Nat} {e : MapEntry}, es[j]? = some e → (es.map MapEntry.born).Nodup → es.eraseIdx j = es.filter fun x => !(x.born == e.born)
  | [], j, e, h, _ => by simp at h
  | x :: r, 0, e, h, hn => by
    obtain rfl : x = e := by simpa using h
    simp only [List.map_cons, List.nodup_cons] at hn
    rw [List.eraseIdx_cons_zero, List.filter_cons_of_neg (by simp)]
    refine (List.filter_eq_self.2 fun y hy => ?_).symm
    have : ¬ y.born = x.born := fun q => hn.1 (List.mem_map.2 ⟨y, hy, q⟩)
    simp [this]
  | x :: r, j + 1, e, h, hn => by
    simp only [List.map_cons, List.nodup_cons] at hn
    have h' : r[j]? = some e := by simpa using h
    have hx : ¬ x.born = e.born := fun q => hn.1 (List.mem_map.2 ⟨e, List.mem_of_getElem? h', q.symm⟩)
    rw [List.eraseIdx_cons_succ, List.filter_cons_of_pos (by simp [hx]), erase_filter h' hn.2]
theorem mdel_keys_nodup {l : Ents} (k : ByteArray) (h : (mkeys l).Nodup) : (mkeys (mdel l k)).Nodup := by
  have : (mkeys (mdel l k)).Sublist (mkeys l) := List.filter_sublist.map _
  exact this.nodup h
theorem mget_mdel (l : Ents) (k n : ByteArray) : mget (mdel l k) n = if k = n then none else mget l n := by
  induction l with
  | nil => simp [mdel, mget]
  | cons p r ih =>
    by_cases hk : k = p.1
    · have : mdel (p :: r) k = mdel r k := by rw [mdel, List.filter_cons_of_neg (by simp [hk])]; rfl
      rw [this, ih, mget]
      by_cases hn : k = n
      · simp [hn]
      · have h2 : ¬ n = p.1 := fun e => hn (hk.trans e.symm)
        simp [hn, h2]
    · have : mdel (p :: r) k = p :: mdel r k := by rw [mdel, List.filter_cons_of_pos (by simp [hk])]; rfl
      rw [this, mget, mget, ih]
      by_cases hn : k = n
      · have h2 : ¬ n = p.1 := fun e => hk (hn.trans e)
        simp [hn, h2]
      · simp [hn]
theorem mdel_length_le (l : Ents) (k : ByteArray) : (mdel l k).length ≤ l.length := List.length_filter_le _ _
theorem mput_length_same : ∀ {l : Ents} {k : ByteArray} (v : Value), mget l k ≠ none → (mput l k v).length = l.length
  | [], _, _, h => absurd rfl h
  | p :: r, k, v, h => by
    by_cases hk : k = p.1
    · simp [mput, hk]
    · rw [mget, if_neg hk] at h
      rw [mput, if_neg hk, List.length_cons, List.length_cons, mput_length_same v h]
theorem IterAt.map {w : World} {r b : Nat} {l todo : Ents} (h : IterAt w r b l todo) : MapAt w b l := by
  obtain ⟨es, clock, since, seen, c0, hr, hb, hf, hn, hd, hlt, hs, hsc, hl⟩ := h
  exact ⟨es, clock, hb, hf, hn, fun e he => Nat.lt_of_lt_of_le (hlt e he) hsc, hd⟩
section
variable {P : Program} {w : World} {t k e : TypeId}
theorem run_delete_it (ht : P.underlying t = some (.map k e)) (hk : P.underlying k = some .string) {r b : Nat} {l todo : Ents} (h : IterAt w r b l todo) {key : ByteArray} (hin : mget l key ≠ none) (ty : TypeId) :
    ∃ w', (Builtin.delete_ #[t, k] ty #[.map (some b), .string key]).run P w = .ok (.tuple #[]) w' ∧ IterAt w' r b (mdel l key) (mdel todo key) ∧ w.grownBy w' (some b) ∧ w'.heap.size = w.heap.size := by
  have hne := h.ne
  obtain ⟨es, clock, since, seen, c0, hr, hb, hf, hn, hd, hlt, hs, hsc, hl⟩ := h
  have hgrow : ∀ o, w.grownBy (ChangeMaps.setBlock w b o) (some b) := fun o => ⟨rfl, rfl, rfl, by simp [ChangeMaps.setBlock], fun i _ hi => ChangeMaps.heap_setBlock_other hb _ (fun e => hi (by rw [e]))⟩
  have hsize : ∀ o, (ChangeMaps.setBlock w b o).heap.size = w.heap.size := fun o => by simp [ChangeMaps.setBlock]
  cases hm : mfind l key 0 with
  | none =>
    have hg := mfind_get l key 0
    rw [hm] at hg
    exact absurd hg.symm hin
  | some q =>
    obtain ⟨j, v0⟩ := q
    obtain ⟨_, ⟨e0, h2, h3⟩, _⟩ := likes_found (v := v0) hf hm
    rw [Nat.sub_zero] at h2
    have hjs : j < es.size := by simpa using (List.getElem?_eq_some_iff.1 h2).1
    have hsub : (es.eraseIdxIfInBounds j).toList = es.toList.filter fun x => !(x.born == e0.born) := by
      unfold Array.eraseIdxIfInBounds
      rw [dif_pos hjs, ← erase_filter h2 hn]
      simp
    have hbk := born_key hf hn hd (List.mem_of_getElem? h2) h3
    refine ⟨ChangeMaps.setBlock w b (.map (es.eraseIdxIfInBounds j) clock), ?_, ⟨_, clock, since, seen, c0, ?_, ChangeMaps.heap_setBlock_same hb _, ?_, ?_, mdel_keys_nodup key hd, ?_, hs, hsc, ?_⟩, hgrow _, hsize _⟩
    · simp [Builtin.delete_, run_underlying ht, MapKept.run_getObj_map hb, run_checkKey_string hk, run_findKey hk hf, hm, MapKept.run_setObj_map _ hb, Result.andThen, ChangeMaps.setBlock]
    · rw [ChangeMaps.heap_setBlock_other hb _ hne]; exact hr
    · rw [hsub]; exact hf.strike hbk
    · rw [hsub]; exact (List.filter_sublist.map _).nodup hn
    · intro x hx
      rw [hsub] at hx
      exact hlt x (List.mem_filter.1 hx).1
    · have e1 : (leftOf (es.eraseIdxIfInBounds j) seen).toList = ((leftOf es seen).toList).filter fun x => !(x.born == e0.born) := by
        unfold leftOf
        rw [Array.toList_filter, Array.toList_filter, hsub, List.filter_filter, List.filter_filter]
        exact List.filter_congr fun x _ => Bool.and_comm _ _
      rw [e1]
      refine hl.strike fun x hx => hbk x ?_
      unfold leftOf at hx
      rw [Array.toList_filter] at hx
      exact (List.mem_filter.1 hx).1
theorem mdel_none {l : Ents} {k : ByteArray} (h : mget l k = none) : mdel l k = l := by
  refine List.filter_eq_self.2 fun p hp => ?_
  have : ¬ k = p.1 := fun e => mget_none.1 h (List.mem_map.2 ⟨p, hp, e.symm⟩)
  simp [this]
theorem run_delete_map (ht : P.underlying t = some (.map k e)) (hk : P.underlying k = some .string) {b : Nat} {l : Ents} (h : MapAt w b l) (key : ByteArray) (ty : TypeId) :
    ∃ w', (Builtin.delete_ #[t, k] ty #[.map (some b), .string key]).run P w = .ok (.tuple #[]) w' ∧ MapAt w' b (mdel l key) ∧ w.grownBy w' (some b) ∧ w'.heap.size = w.heap.size := by
  have h0 := h
  obtain ⟨es, clock, hb, hf, hn, hc, hd⟩ := h
  have hgrow : ∀ o, w.grownBy (ChangeMaps.setBlock w b o) (some b) := fun o => ⟨rfl, rfl, rfl, by simp [ChangeMaps.setBlock], fun i _ hi => ChangeMaps.heap_setBlock_other hb _ (fun e => hi (by rw [e]))⟩
  have hsize : ∀ o, (ChangeMaps.setBlock w b o).heap.size = w.heap.size := fun o => by simp [ChangeMaps.setBlock]
  cases hm : mfind l key 0 with
  | none =>
    have hg := mfind_get l key 0
    rw [hm] at hg
    refine ⟨ChangeMaps.setBlock w b (.map es clock), ?_, ?_, hgrow _, hsize _⟩
    · simp [Builtin.delete_, run_underlying ht, MapKept.run_getObj_map hb, run_checkKey_string hk, run_findKey hk hf, hm, MapKept.run_setObj_map _ hb, Result.andThen, ChangeMaps.setBlock]
    · rw [mdel_none hg.symm]
      exact ⟨es, clock, ChangeMaps.heap_setBlock_same hb _, hf, hn, hc, hd⟩
  | some q =>
    obtain ⟨j, v0⟩ := q
    obtain ⟨_, ⟨e0, h2, h3⟩, _⟩ := likes_found (v := v0) hf hm
    rw [Nat.sub_zero] at h2
    have hjs : j < es.size := by simpa using (List.getElem?_eq_some_iff.1 h2).1
    have hsub : (es.eraseIdxIfInBounds j).toList = es.toList.filter fun x => !(x.born == e0.born) := by
      unfold Array.eraseIdxIfInBounds
      rw [dif_pos hjs, ← erase_filter h2 hn]
      simp
    have hbk := born_key hf hn hd (List.mem_of_getElem? h2) h3
    refine ⟨ChangeMaps.setBlock w b (.map (es.eraseIdxIfInBounds j) clock), ?_, ⟨_, clock, ChangeMaps.heap_setBlock_same hb _, ?_, ?_, ?_, mdel_keys_nodup key hd⟩, hgrow _, hsize _⟩
    · simp [Builtin.delete_, run_underlying ht, MapKept.run_getObj_map hb, run_checkKey_string hk, run_findKey hk hf, hm, MapKept.run_setObj_map _ hb, Result.andThen, ChangeMaps.setBlock]
    · rw [hsub]; exact hf.strike hbk
    · rw [hsub]; exact (List.filter_sublist.map _).nodup hn
    · intro x hx
      rw [hsub] at hx
      exact hc x (List.mem_filter.1 hx).1
variable {ops : Array Oper} {Q : Exit → Act → World → Prop} {dst : Option Tmp} {ty : TypeId} {pos : String} {after : Array Edge} {gd : Option (Nat × Bool)} {a : Act} {rest : List Oper}
theorem wpl_delete {m x : Operand} {r b : Nat} {l todo : Ents} {key : ByteArray} (hw : Region.wanted ⟨dst, .call ⟨.builtin .delete, #[m, x], #[t, k]⟩, ty, pos, after, gd⟩ (yielded ops a.tmps) = true)
    (hm : a.eval m = .map (some b)) (hx : a.eval x = .string key) (ht : P.underlying t = some (.map k e)) (hk : P.underlying k = some .string) (h : IterAt w r b l todo) (hin : mget l key ≠ none)
    (hR : ∀ w', IterAt w' r b (mdel l key) (mdel todo key) → w.grownBy w' (some b) → w'.heap.size = w.heap.size → wpList P ops Q rest (a.put dst (.tuple #[])) w') :
    wpList P ops Q (⟨dst, .call ⟨.builtin .delete, #[m, x], #[t, k]⟩, ty, pos, after, gd⟩ :: rest) a w :=
  Any.wpl hw (by
    obtain ⟨w', hr, h1, h2, h3⟩ := run_delete_it (P := P) ht hk h hin ty
    unfold Any.OpOk
    simp [execOp, resolve, invoke, builtin, hm, hx, hr, Result.andThen]
    exact hR w' h1 h2 h3)
theorem wpl_deletem {m x : Operand} {b : Nat} {l : Ents} {key : ByteArray} (hw : Region.wanted ⟨dst, .call ⟨.builtin .delete, #[m, x], #[t, k]⟩, ty, pos, after, gd⟩ (yielded ops a.tmps) = true)
    (hm : a.eval m = .map (some b)) (hx : a.eval x = .string key) (ht : P.underlying t = some (.map k e)) (hk : P.underlying k = some .string) (h : MapAt w b l)
    (hR : ∀ w', MapAt w' b (mdel l key) → w.grownBy w' (some b) → w'.heap.size = w.heap.size → wpList P ops Q rest (a.put dst (.tuple #[])) w') :
    wpList P ops Q (⟨dst, .call ⟨.builtin .delete, #[m, x], #[t, k]⟩, ty, pos, after, gd⟩ :: rest) a w :=
  Any.wpl hw (by
    obtain ⟨w', hr, h1, h2, h3⟩ := run_delete_map (P := P) ht hk h key ty
    unfold Any.OpOk
    simp [execOp, resolve, invoke, builtin, hm, hx, hr, Result.andThen]
    exact hR w' h1 h2 h3)
end
end Go.Proofs.YtnbhneeohkfocaaDoor.Mp
namespace Go.Proofs.YtnbhneeohkfocaaDoor.Sc
open Go Go.RowKit Go.ChangeShapes Go.WideShapes Go.ChangeAt
set_option maxRecDepth 100000

def nz (x : Option Int) : Option Int := if x = some 0 then none else x
/-- What stands in the map while the range goes: entries of nothing that have come are gone. -/
def DelOf (cur : Mp.Ents) (C : ByteArray → Option Int) (todo : Mp.Ents) : Prop := ∀ n, Mp.mget cur n = (if Mp.mget todo n = none then nz (C n) else C n).map (Value.int .i64)
theorem delOf_start {es : Mp.Ents} {C : ByteArray → Option Int} (h : ∀ n, Mp.mget es n = (C n).map (Value.int .i64)) : DelOf es C es := fun n => by
  have h1 := h n
  by_cases h0 : Mp.mget es n = none
  · rw [if_pos h0]
    rw [h0] at h1
    have h2 : C n = none := by
      cases hc : C n with
      | none => rfl
      | some c => rw [hc] at h1; cases h1
    rw [h0, h2]
    rfl
  · rw [if_neg h0, h1]
theorem delOf_keep {cur todo : Mp.Ents} {C : ByteArray → Option Int} {key : ByteArray} {c : Int} (h : DelOf cur C todo) (hk : C key = some c) (hin : Mp.mget todo key ≠ none) (hc : ¬ c = 0) : DelOf cur C (Mp.mdel todo key) := fun n => by
  rw [Mp.mget_mdel, h n]
  by_cases hn : key = n
  · subst hn
    rw [if_neg hin, if_pos (if_pos rfl), nz, if_neg]
    rw [hk]
    exact fun e => hc (Option.some.inj e)
  · rw [if_neg hn]
theorem delOf_del {cur todo : Mp.Ents} {C : ByteArray → Option Int} {key : ByteArray} (h : DelOf cur C todo) (hk : C key = some 0) : DelOf (Mp.mdel cur key) C (Mp.mdel (Mp.mdel todo key) key) := fun n => by
  rw [Mp.mget_mdel, Mp.mget_mdel, Mp.mget_mdel, h n]
  by_cases hn : key = n
  · subst hn
    rw [if_pos rfl, if_pos rfl, if_pos rfl, nz, if_pos hk]
    rfl
  · rw [if_neg hn, if_neg hn, if_neg hn]
theorem delOf_end {cur : Mp.Ents} {C : ByteArray → Option Int} (h : DelOf cur C []) (n : ByteArray) : Mp.mget cur n = (nz (C n)).map (Value.int .i64) := by
  rw [h n, if_pos (show Mp.mget [] n = none from rfl)]
theorem mget_ne {l : Mp.Ents} {k : ByteArray} {v : Value} (h : (k, v) ∈ l) : Mp.mget l k ≠ none := fun e => Mp.mget_none.1 e (List.mem_map.2 ⟨_, h, rfl⟩)
set_option maxHeartbeats 2000000 in
theorem zero_any (k : ByteArray) (c : Int) (w : World) : Calls Tryd.prog 49 #[.string k, .int .i64 c] w (RetB w (decide (c = 0))) := by
  by_cases h : c = 0
  · subst h
    go_enter Tryd.func49, Tryd.ntmps49
    go_wp2_with fail
    go_ret
    exact ⟨rfl, Below.refl _ _⟩
  · have t1 : (c == 0) = false := by simp [h]
    rw [decide_eq_false h]
    clear h
    go_enter Tryd.func49, Tryd.ntmps49
    go_wp2_with fail
    go_ret
    exact ⟨rfl, Below.refl _ _⟩
def DelP (w : World) (b : Nat) (es : Mp.Ents) (C : ByteArray → Option Int) (e : Ending) (w' : World) : Prop := ∃ es2, e = .returned (.tuple #[]) ∧ Mp.MapAt w' b es2 ∧ (∀ n, Mp.mget es2 n = (nz (C n)).map (Value.int .i64)) ∧ es2.length ≤ es.length ∧ Below b w w'
set_option maxHeartbeats 8000000 in
theorem delF_any (es : Mp.Ents) (C : ByteArray → Option Int) (b : Nat) (w : World) (hm : Mp.MapAt w b es) (hC : ∀ n, Mp.mget es n = (C n).map (Value.int .i64)) :
    Calls Tryd.prog 48 #[.map (some b), .func (.func 49) #[] #[]] w (DelP w b es C) := by
  have HM := Lib.hid hm
  have HND := Lib.hid hm.nodup
  have HC := Lib.hid hC
  have HBL : Hid (b < w.heap.size) := Lib.hid hm.lt
  clear hm hC
  go_enter Tryd.func48, Tryd.ntmps48
  go_wp2_with (first
    | ((with_reducible refine Mp.wpl_range (b := b) (l := es) ?_ ?_ Tryd.underlying92 HM.out ?_); rfl; rfl; intro w1 hit ha; have HIT := Lib.hid hit; have HB1 : Hid (Below b w w1) := Lib.hid (by obtain ⟨o, rfl⟩ := ha; exact (one_below _ _).mono (Nat.le_of_lt HBL.out)); clear hit ha; go_frame)
    | fail)
  obtain ⟨r, hr⟩ : ∃ r, r = w.heap.size := ⟨_, rfl⟩
  have HR : Hid (b < r) := Lib.hid (by rw [hr]; exact HBL.out)
  rw [← hr] at HIT ⊢
  clear hr
  go_loopw [4, 5] (fun _ _ wr => ∃ cur todo : Mp.Ents, Mp.IterAt wr r b cur todo ∧ DelOf cur C todo ∧ (∀ p ∈ todo, p ∈ es) ∧ cur.length ≤ es.length ∧ Below b w wr) (fun _ _ wr => Mp.itLeft wr r b)
  case atStart => exact ⟨es, es, HIT.out, delOf_start HC.out, fun _ h => h, Nat.le_refl _, HB1.out⟩
  case round =>
    obtain ⟨cur, todo, hit, hd, hin, hle, hbel⟩ := hrel
    have HIT2 := Lib.hid hit
    have HD := Lib.hid hd
    have HIN := Lib.hid hin
    have HLE := Lib.hid hle
    have HBEL := Lib.hid hbel
    clear hit hd hin hle hbel
    go_wp2_with (first
      | ((with_reducible refine Mp.wpl_next ?_ ?_ HIT2.out ?_ ?_); rfl; rfl)
      | fail)
    · intro h0
      have HE := Lib.hid (delOf_end (h0 ▸ HD.out))
      clear h0
      go_wp2_with fail
      go_end0
      exact ⟨cur, rfl, HIT2.out.map, HE.out, HLE.out, HBEL.out⟩
    · intro key sv wc hmem hitc hgc hsc hen
      have HMEM := Lib.hid hmem
      have HITC := Lib.hid hitc
      have hg := Mp.mget_of_mem HND.out (HIN.out _ hmem)
      rw [HC.out key] at hg
      obtain ⟨c, hck, hcv⟩ : ∃ c, C key = some c ∧ sv = .int .i64 c := by
        cases hc : C key with
        | none => rw [hc] at hg; cases hg
        | some c => rw [hc] at hg; exact ⟨c, rfl, (Option.some.inj hg).symm⟩
      subst hcv
      have HCK := Lib.hid hck
      have HBC : Hid (Below b w wc) := Lib.hid (HBEL.out.grown hgc (Nat.le_trans (Nat.le_of_lt HBL.out) HBEL.out.size) (fun k hk => by have := HR.out; have e' := Option.some.inj hk; omega))
      have HZ := Lib.hid (zero_any key c wc)
      have HSUB : Hid (∀ p ∈ Mp.mdel todo key, p ∈ es) := Lib.hid fun p hp => HIN.out p (List.mem_filter.1 hp).1
      have HLT := Lib.hid (Mp.mdel_lt hmem)
      have HI0 := Lib.hid (Mp.itLeft_eq HIT2.out)
      have HCUR : Hid (Mp.mget cur key ≠ none) := Lib.hid (by
        rw [HD.out key, if_neg (mget_ne hmem), hck]
        exact fun e => by cases e)
      clear hmem hitc hgc hsc hg hck
      by_cases h0 : c = 0
      · subst h0
        have HDN := Lib.hid (delOf_del HD.out HCK.out)
        go_wp2_with (first
          | ((with_reducible refine HZ.out.mono ?_); rintro e w4 ⟨rfl, hb4⟩; rw [decide_eq_true rfl]; have HIT4 := Lib.hid (HITC.out.same (hb4.block _ HITC.out.lt.1) (hb4.block _ HITC.out.lt.2)); have HB4 := Lib.hid (HBC.out.trans (hb4.mono (Nat.le_trans (Nat.le_of_lt HBL.out) HBC.out.size))); clear hb4)
          | ((with_reducible refine Mp.wpl_delete (b := b) (key := key) ?_ ?_ ?_ Tryd.underlying92 Tryd.underlying9 HIT4.out HCUR.out ?_); rfl; rfl; rfl; intro w5 hi5 hg5 hz5; have HIT5 := Lib.hid hi5; have HB5 := Lib.hid (HB4.out.grown hg5 (Nat.le_trans (Nat.le_of_lt HBL.out) HB4.out.size) (fun k hk => Nat.le_of_eq (Option.some.inj hk))); clear hi5 hg5 hz5; go_frame)
          | fail)
        go_roundw
        case rel => exact ⟨_, _, HIT5.out, HDN.out, fun p hp => HSUB.out p (List.mem_filter.1 hp).1, Nat.le_trans (Mp.mdel_length_le _ _) HLE.out, HB5.out⟩
        case measure =>
          rw [Mp.itLeft_eq HIT5.out, HI0.out]
          exact Nat.lt_of_le_of_lt (Mp.mdel_length_le _ _) HLT.out
      · have HDN := Lib.hid (delOf_keep HD.out HCK.out (mget_ne HMEM.out) h0)
        have tz := decide_eq_false h0
        rw [tz] at HZ
        clear h0 tz
        go_wp2_with (first
          | ((with_reducible refine HZ.out.mono ?_); rintro e w4 ⟨rfl, hb4⟩; have HIT4 := Lib.hid (HITC.out.same (hb4.block _ HITC.out.lt.1) (hb4.block _ HITC.out.lt.2)); have HB4 := Lib.hid (HBC.out.trans (hb4.mono (Nat.le_trans (Nat.le_of_lt HBL.out) HBC.out.size))); clear hb4)
          | fail)
        go_roundw
        case rel => exact ⟨_, _, HIT4.out, HDN.out, HSUB.out, HLE.out, HB4.out⟩
        case measure =>
          rw [Mp.itLeft_eq HIT4.out, HI0.out]
          exact HLT.out
end Go.Proofs.YtnbhneeohkfocaaDoor.Sc
