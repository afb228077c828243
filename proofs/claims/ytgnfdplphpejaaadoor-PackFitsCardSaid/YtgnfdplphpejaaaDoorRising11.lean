/- The goods of a map, rising; Join by the program. -/
import Derived.Test.YtgnfdplphpejaaaDoorSortL11
namespace Go.Proofs.YtgnfdplphpejaaaDoor.Mp
open Go Go.RowKit
def itLeft (w : World) (r b : Nat) : Nat :=
  match w.heap[r]?, w.heap[b]? with
  | some (.mapIter _ _ seen _), some (.map es _) => (leftOf es seen).size
  | _, _ => 0
theorem itLeft_eq {w : World} {r b : Nat} {l todo : Ents} (h : IterAt w r b l todo) : itLeft w r b = todo.length := by
  obtain ⟨es, clock, since, seen, c0, hr, hb, _, _, _, _, _, _, hl⟩ := h
  unfold itLeft
  rw [hr, hb]
  have := hl.length
  simpa using this
theorem mdel_nodup {l : Ents} (k : ByteArray) (h : (mkeys l).Nodup) : (mkeys (mdel l k)).Nodup := by
  have : (mkeys (mdel l k)).Sublist (mkeys l) := List.filter_sublist.map _
  exact this.nodup h
theorem mdel_lt {l : Ents} {k : ByteArray} {v : Value} (h : (k, v) ∈ l) : (mdel l k).length < l.length := by
  rcases Nat.lt_or_ge (mdel l k).length l.length with h1 | h1
  · exact h1
  · exfalso
    have h2 := List.length_filter_le (fun p : ByteArray × Value => !decide (k = p.1)) l
    have h3 : (mdel l k).length = l.length := Nat.le_antisymm h2 h1
    have h4 := List.length_filter_eq_length_iff.1 h3 (k, v) h
    simp at h4
theorem perm_mdel {key : ByteArray} {v : Value} : ∀ {l : Ents}, (mkeys l).Nodup → (key, v) ∈ l → l.Perm ((key, v) :: mdel l key)
  | [], _, h => by simp at h
  | p :: r, hn, h => by
    simp only [mkeys, List.map_cons, List.nodup_cons] at hn
    rcases List.mem_cons.1 h with rfl | h'
    · have : mdel ((key, v) :: r) key = r := by
        rw [mdel, List.filter_cons_of_neg (by simp)]
        refine List.filter_eq_self.2 fun q hq => ?_
        have : ¬ key = q.1 := fun e => hn.1 (List.mem_map.2 ⟨q, hq, e.symm⟩)
        simp [this]
      rw [this]
    · have hk : ¬ key = p.1 := fun e => hn.1 (List.mem_map.2 ⟨(key, v), h', e⟩)
      have : mdel (p :: r) key = p :: mdel r key := by rw [mdel, List.filter_cons_of_pos (by simp [hk])]; rfl
      rw [this]
      exact ((perm_mdel hn.2 h').cons p).trans (List.Perm.swap _ _ _)
end Go.Proofs.YtgnfdplphpejaaaDoor.Mp
namespace Go.Proofs.YtgnfdplphpejaaaDoor.Sc
open Go Go.RowKit Go.ChangeShapes Go.WideShapes Go.ChangeAt
set_option maxRecDepth 100000

theorem size_al (w : World) (o : Obj) : (w.alloc o).heap.size = w.heap.size + 1 := by simp
def cntV : Value → Int
  | .int _ c => c
  | _ => 0
def entLots (es : Mp.Ents) : List Lt := es.map fun p => ⟨p.1, cntV p.2⟩
theorem ent_val {es : Mp.Ents} {L : List Lt} (h : CntOf es L) (hn : (Mp.mkeys es).Nodup) {p : ByteArray × Value} (hp : p ∈ es) : ∃ c : Int, p.2 = .int .i64 c ∧ 0 < c ∧ posTot L p.1 = c := by
  have h1 := Mp.mget_of_mem hn hp
  rw [h p.1] at h1
  split at h1
  · exact ⟨_, (Option.some.inj h1).symm, by assumption, rfl⟩
  · cases h1
theorem ent_perm {es : Mp.Ents} {L : List Lt} (h : CntOf es L) (hn : (Mp.mkeys es).Nodup) (hL : Norm L) : (entLots es).Perm L := by
  rw [List.perm_ext_iff_of_nodup]
  · intro x
    rw [mem_norm hL]
    constructor
    · intro hx
      obtain ⟨p, hp, rfl⟩ := List.mem_map.1 hx
      obtain ⟨c, hc, h0, h1⟩ := ent_val h hn hp
      simp only [hc, cntV]
      exact ⟨h0, h1⟩
    · rintro ⟨h0, h1⟩
      have h2 := h x.good
      rw [h1, if_pos h0] at h2
      exact List.mem_map.2 ⟨_, Mp.mem_of_mget h2, rfl⟩
  · refine List.Pairwise.map _ (fun a b (hab : a.1 ≠ b.1) e => hab (by simpa using congrArg Lt.good e)) ?_
    exact List.pairwise_map.1 hn
  · exact hL.up.imp fun {a b} hab e => by rw [e] at hab; exact List.lt_irrefl _ hab
/-- Sorted, whatever order they came in. -/
theorem sorted_lots {D L : List Lt} (hs : D.Pairwise fun a b => ¬ bt b.good < bt a.good) (hp : D.Perm L) (hL : Norm L) : D = L := by
  have hn := norm_goods hL
  refine List.Perm.eq_of_pairwise (le := fun a b => ¬ bt b.good < bt a.good) (fun a b ha hb h1 h2 => ?_) hs (hL.up.imp fun {a b} hab h => List.lt_irrefl _ (List.lt_trans hab h)) hp
  have e : a.good = b.good := bt_inj (List.le_antisymm (List.not_lt.1 h1) (List.not_lt.1 h2))
  have h3 := posTot_of hL (hp.mem_iff.1 ha)
  have h4 := posTot_of hL hb
  obtain ⟨ag, ac⟩ := a
  obtain ⟨bg, bc⟩ := b
  simp only at e h3 h4
  subst e
  rw [h3] at h4
  rw [h4]
theorem entLots_append (a b : Mp.Ents) : entLots (a ++ b) = entLots a ++ entLots b := by simp [entLots]
theorem ltCells_append (a b : List Lt) : ltCells (a ++ b) = ltCells a ++ ltCells b := by simp [ltCells]
theorem infoLt : (Tryd.prog.info? 35).map (fun i => (i.zero, i.size, i.bytes)) = some (some (.agg #[.string ⟨#[]⟩, .int .i64 0]), 2, 24) := by kernel_rfl
theorem lt_one (n : ByteArray) (c : Int) : ∀ u ∈ (#[Value.string n, .int .i64 c] : Array Value).toList, u.oneCell' = true := by
  intro u hu
  simp at hu
  rcases hu with rfl | rfl <;> rfl
theorem own_lots {w : World} {B n : Nat} {v : Value} {l : List Lt} (h : w.ownsRow B 35 2 v n (ltCells l)) (hn : n = l.length) : Sl w 2 v (l.map Lt.row) := by
  rw [ltCells_flat] at h
  exact own_sl h (by simpa using hn) (lt_rows l)
set_option maxHeartbeats 4000000 in
theorem rising_any (es : Mp.Ents) (L : List Lt) (bm : Nat) (w : World) (hm : Mp.MapAt w bm es) (hc : CntOf es L) (hL : Norm L) (hl : es.length ≤ 4000) :
    Calls Tryd.prog 54 #[.map (some bm)] w (RetRow w 35 2 L.length (ltCells L)) := by
  have HM := Lib.hid hm
  have HND := Lib.hid hm.nodup
  have HCN := Lib.hid hc
  have HNL := Lib.hid hL
  have HLEN := Lib.hid hl
  obtain ⟨i0, hi, hz, hsz, hby⟩ := info_parts infoLt
  have HI := Lib.hid (And.intro hi (And.intro hz (And.intro hsz hby)))
  clear hi hz hsz hby hm hc hL hl
  go_enter Tryd.func54, Tryd.ntmps54
  go_wp2_with (first
    | ((with_reducible refine Mp.wpl_range (b := bm) (l := es) ?_ ?_ Tryd.underlying94 HM.out ?_); rfl; rfl; intro w1 hit ha; have HIT := Lib.hid hit; have HB1 : Hid (Below w.heap.size w w1) := Lib.hid (by obtain ⟨o, rfl⟩ := ha; exact one_below _ _); clear hit ha; go_frame)
    | fail)
  obtain ⟨r, hr⟩ : ∃ r, r = w.heap.size := ⟨_, rfl⟩
  have HR := Lib.hid hr
  rw [← hr] at HIT ⊢
  clear hr
  have HRW : Hid (r < w1.heap.size) := Lib.hid HIT.out.lt.1
  have HMW : Hid (bm < w1.heap.size) := Lib.hid HIT.out.lt.2
  go_loopw [3, 4, 5] (fun o _ _ wr => ∃ done todo : Mp.Ents, Mp.IterAt wr r bm es todo ∧ (done ++ todo).Perm es ∧ wr.ownsRow w1.heap.size 35 2 o (entLots done).length (ltCells (entLots done)) ∧ Below w.heap.size w wr ∧ w1.heap.size ≤ wr.heap.size) (fun _ _ _ wr => Mp.itLeft wr r bm)
  case atStart => exact ⟨[], es, HIT.out, List.Perm.refl _, World.ownsRow_nil _ _ _ _, HB1.out, Nat.le_refl _⟩
  case round =>
    obtain ⟨done, todo, hit, hp, hown, hbel, hsz⟩ := hrel
    have HIT2 := Lib.hid hit
    have HP2 := Lib.hid hp
    have HOWN := Lib.hid hown
    have HBEL := Lib.hid hbel
    have HSZ := Lib.hid hsz
    have HDL : Hid ((entLots done).length ≤ 4000) := Lib.hid (by
      have h2 := hp.length_eq
      have h3 := HLEN.out
      rw [List.length_append] at h2
      rw [entLots, List.length_map]
      omega)
    clear hit hp hown hbel hsz
    go_wp2_with (first
      | ((with_reducible refine Mp.wpl_next ?_ ?_ HIT2.out ?_ ?_); rfl; rfl)
      | fail)
    · intro h0
      have HT := Lib.hid h0
      clear h0
      have HSO := Lib.hid (fun W h => sortLots_any (entLots done) u3 (entLots done).length w1.heap.size W h rfl (by have := HDL.out; omega))
      have HPD : Hid ((entLots done).Perm L) := Lib.hid (by
        have := HP2.out
        rw [HT.out, List.append_nil] at this
        exact (this.map _).trans (ent_perm HCN.out HND.out HNL.out))
      go_wp2_with (first
        | ((with_reducible refine (HSO.out _ HOWN.out).mono ?_); rintro e w3 ⟨rfl, D', hp3, hs3, ho3, hg3⟩; have HS3 := Lib.hid (And.intro hp3 hs3); have HO3 := Lib.hid ho3; have HG3 := Lib.hid hg3; clear hp3 hs3 ho3 hg3)
        | fail)
      go_ret
      have hD := sorted_lots HS3.out.2 (HS3.out.1.trans HPD.out) HNL.out
      have ho := HO3.out
      rw [hD, HPD.out.length_eq] at ho
      exact retRow ho HB1.out.size (HBEL.out.grown HG3.out HBEL.out.size (fun k hk => Nat.le_trans HB1.out.size (HOWN.out.lt k hk).1))
    · intro key sv wc hmem hitc hgc hsc hen
      have HMEM := Lib.hid hmem
      have HITC := Lib.hid hitc
      obtain ⟨c, hcv, -, -⟩ := ent_val HCN.out HND.out (HP2.out.mem_iff.1 (List.mem_append.2 (.inr hmem)))
      simp only at hcv
      subst hcv
      have HBC : Hid (Below w.heap.size w wc) := Lib.hid (HBEL.out.grown hgc HBEL.out.size (fun k hk => by have := HR.out; have e' := Option.some.inj hk; omega))
      have HSC : Hid (w1.heap.size ≤ wc.heap.size) := Lib.hid (Nat.le_trans HSZ.out hgc.size)
      have HOC : Hid (wc.ownsRow w1.heap.size 35 2 u3 (entLots done).length (ltCells (entLots done))) := Lib.hid (ownsRow_keep HOWN.out (Keep.of_grown hgc) (ownsRow_off HOWN.out (fun b hb _ e => by have := HRW.out; have e' := Option.some.inj e; omega)))
      have hnt : (Mp.mkeys todo).Nodup := by
        have hnd : (Mp.mkeys (done ++ todo)).Nodup := (HP2.out.map Prod.fst).nodup_iff.2 HND.out
        rw [Mp.mkeys, List.map_append, List.nodup_append] at hnd
        exact hnd.2.1
      have HPD : Hid ((done ++ [(key, Value.int .i64 c)] ++ Mp.mdel todo key).Perm es) := Lib.hid (by
        refine List.Perm.trans ?_ HP2.out
        rw [List.append_assoc]
        exact (Mp.perm_mdel hnt hmem).symm.append_left done)
      have HL : Hid ((entLots done).length + 1 ≤ maxLen ∧ ((entLots done).length + 1) * 24 ≤ 140737488355328 ∧ w1.heap.size ≤ wc.heap.size) := Lib.hid (by
        have := HDL.out
        have := HSC.out
        simp only [maxLen]
        omega)
      have HDS : Hid (entLots (done ++ [(key, Value.int .i64 c)]) = entLots done ++ [Lt.mk key c]) := Lib.hid (by rw [entLots_append]; rfl)
      clear hmem hitc hgc hsc hnt
      generalize entLots done = D at *
      go_wp2_with (first
        | (((with_reducible refine Any.wpl_push ?_ ?_ ?_ Tryd.underlying23 HI.out.1 HI.out.2.1 HI.out.2.2.1 HI.out.2.2.2 ?_ (by decide) ?_ (lt_one key c) (HOC.out) HL.out.1 HL.out.2.1 HL.out.2.2 ?_); rfl; rfl; rfl; rfl; rfl; intro v1 w1 hown1 hgrow1 hwho1); have HOWN1 := Lib.hid hown1; have HG1 := Lib.hid hgrow1; clear hown1 hgrow1 hwho1)
        | fail)
      go_roundw
      case rel =>
        refine ⟨done ++ [(key, Value.int .i64 c)], Mp.mdel todo key, ?_, HPD.out, ?_, HBC.out.grown HG1.out HBC.out.size (fun k hk => Nat.le_trans HB1.out.size (HOC.out.lt k hk).1), Nat.le_trans HSC.out HG1.out.size⟩
        · exact HITC.out.same (HG1.out.block r HITC.out.lt.1 (fun e => by have := (HOC.out.lt r e.symm).1; have := HRW.out; omega)) (HG1.out.block bm HITC.out.lt.2 (fun e => by have := (HOC.out.lt bm e.symm).1; have := HMW.out; omega))
        · rw [HDS.out]
          have := HOWN1.out
          simpa [ltCells, Lt.row] using this
      case measure =>
        rw [Mp.itLeft_eq (HITC.out.same (HG1.out.block r HITC.out.lt.1 (fun e => by have := (HOC.out.lt r e.symm).1; have := HRW.out; omega)) (HG1.out.block bm HITC.out.lt.2 (fun e => by have := (HOC.out.lt bm e.symm).1; have := HMW.out; omega))), Mp.itLeft_eq HIT2.out]
        exact Mp.mdel_lt HMEM.out
theorem cntOf_tot {es : Mp.Ents} {l m : List Lt} (h : CntOf es l) (e : ∀ n, posTot m n = posTot l n) : CntOf es m := fun n => by rw [e n]; exact h n
set_option maxHeartbeats 2000000 in
theorem join_any (l : List Lt) (v : Value) (w : World) (hs : Sl w 2 v (l.map Lt.row)) (hl : l.length ≤ 4000) (hc : ∀ x ∈ l, x.cnt ≤ 1099511627776) :
    Calls Tryd.prog 36 #[v] w (RetRow w 35 2 (joinL l).length (ltCells (joinL l))) := by
  have HC := Lib.hid (counts_any l v w hs hl hc)
  have HL := Lib.hid hl
  clear hs hl hc
  go_enter Tryd.func36, Tryd.ntmps36
  go_wp2_with (first
    | ((with_reducible refine HC.out.mono ?_); rintro e w1 ⟨bm, es, rfl, hbm, hm, hcn, hel, hb1⟩; have HB := Lib.hid hb1; have HRI := Lib.hid (rising_any es (joinL l) bm w1 hm (cntOf_tot hcn (joinL_tot l)) (joinL_norm l) (by have := HL.out; omega)); clear hbm hm hcn hel hb1)
    | ((with_reducible refine HRI.out.mono ?_); rintro e w2 ⟨v2, rfl, hown, hb2⟩; have HO := Lib.hid hown; have HB2 := Lib.hid hb2; clear hown hb2)
    | fail)
  go_ret
  exact retRow HO.out HB.out.size (HB.out.trans (HB2.out.mono HB.out.size))
end Go.Proofs.YtgnfdplphpejaaaDoor.Sc
