/- The program's house in memory. -/
import Derived.Test.YticnmmfiadpbbaaGreatFirst25
import Derived.Test.YticnmmfiadpbbaaGreatRfK25
import Derived.Test.YticnmmfiadpbbaaGreatRfO25
import Derived.Test.YticnmmfiadpbbaaGreatRfP25
import Derived.Test.YticnmmfiadpbbaaGreatMapD
namespace Go.Proofs.YticnmmfiadpbbaaGreat.Sc
open Go Go.RowKit Go.ChangeShapes Go.WideShapes Go.ChangeAt
set_option maxRecDepth 100000

/-- A house: its box, the map of its receipts, the map of its numbers. -/
structure HsAt (w : World) (bh bm bu : Nat) (h : Hs) (es us : Mp.Ents) : Prop where
  box : w.heap[bh]? = some (.cells #[.string h.name, .map (some bm), .map (some bu)] 61 (0, 0))
  rm : Mp.MapAt w bm es
  um : Mp.MapAt w bu us
  hit : ∀ n r, rfind h.L n = some r → ∃ lv, Mp.mget es n = some (.agg (Rv.cells ⟨r, lv⟩)) ∧ Sl w 2 lv (r.lots.map Lt.row)
  miss : ∀ n, rfind h.L n = none → Mp.mget es n = none
  uses : ∀ n, Mp.mget us n = if memB n h.used = true then some (.bool true) else none
  ul : us.length = h.used.length
  ne : bm ≠ bu
def Hsx (w : World) (bh bm bu : Nat) (h : Hs) : Prop := ∃ es us, HsAt w bh bm bu h es us
theorem box_not_map {w : World} {b b' : Nat} {cs : Array Value} {t : TypeId} {fr : Nat × Nat} {l : Mp.Ents} (h : w.heap[b]? = some (.cells cs t fr)) (hm : Mp.MapAt w b' l) : b ≠ b' := by
  rintro rfl
  obtain ⟨es, clock, hm, _⟩ := hm
  rw [h] at hm
  cases hm
theorem HsAt.ne1 {w : World} {bh bm bu : Nat} {h : Hs} {es us : Mp.Ents} (H : HsAt w bh bm bu h es us) : bh ≠ bm := box_not_map H.box H.rm
theorem HsAt.ne2 {w : World} {bh bm bu : Nat} {h : Hs} {es us : Mp.Ents} (H : HsAt w bh bm bu h es us) : bh ≠ bu := box_not_map H.box H.um
theorem HsAt.lt {w : World} {bh bm bu : Nat} {h : Hs} {es us : Mp.Ents} (H : HsAt w bh bm bu h es us) : bh < w.heap.size ∧ bm < w.heap.size ∧ bu < w.heap.size := ⟨lt_blk H.box, H.rm.lt, H.um.lt⟩
theorem HsAt.below {w w' : World} {bh bm bu : Nat} {h : Hs} {es us : Mp.Ents} (H : HsAt w bh bm bu h es us) (hb : Below w.heap.size w w') : HsAt w' bh bm bu h es us :=
  ⟨blk hb H.lt.1 H.box, H.rm.same (hb.block _ H.lt.2.1), H.um.same (hb.block _ H.lt.2.2), fun n r hr => by
    obtain ⟨lv, h1, h2⟩ := H.hit n r hr
    exact ⟨lv, h1, h2.below hb (Nat.le_refl _)⟩, H.miss, H.uses, H.ul, H.ne⟩
theorem Hsx.below {w w' : World} {bh bm bu : Nat} {h : Hs} (H : Hsx w bh bm bu h) (hb : Below w.heap.size w w') : Hsx w' bh bm bu h := by
  obtain ⟨es, us, H⟩ := H
  exact ⟨es, us, H.below hb⟩
/-- Rows of cells stay where maps alone turn. -/
theorem Sl.keepM {F : Nat → Prop} {w w' : World} {sz : Nat} {v : Value} {xs : List (List Value)} (h : Sl w sz v xs) (k : Keep F w w') (hF : ∀ b, F b → ∀ j, w.cell? ⟨b, j, none⟩ = none) : Sl w' sz v xs := by
  rcases h with h | ⟨b, off, cap, rfl, hlt, h1, h2, hc⟩
  · exact .inl h
  · refine .inr ⟨b, off, cap, rfl, Nat.lt_of_lt_of_le hlt k.size, h1, h2, fun i r hr j u hu => ?_⟩
    have h3 := hc i r hr j u hu
    exact (k.cell hlt (fun e => by rw [hF b e] at h3; cases h3)).trans h3
theorem map_no_cell {w : World} {b : Nat} {l : Mp.Ents} (h : Mp.MapAt w b l) (j : Nat) : w.cell? ⟨b, j, none⟩ = none := by
  obtain ⟨es, clock, hb, _⟩ := h
  simp [World.cell?, hb]
theorem HsAt.keepM {F : Nat → Prop} {w w' : World} {bh bm bu : Nat} {h : Hs} {es us : Mp.Ents} (H : HsAt w bh bm bu h es us) (k : Keep F w w') (hF : ∀ b, F b → ∀ j, w.cell? ⟨b, j, none⟩ = none) (h1 : ¬ F bm) (h2 : ¬ F bu) : HsAt w' bh bm bu h es us :=
  ⟨k.blk H.box (fun e => by have := hF bh e 0; rw [cell_blk H.box] at this; cases this), MapAt.keep H.rm k h1, MapAt.keep H.um k h2, fun n r hr => by
    obtain ⟨lv, h3, h4⟩ := H.hit n r hr
    exact ⟨lv, h3, h4.keepM k hF⟩, H.miss, H.uses, H.ul, H.ne⟩
theorem rfind_rput {L : List Rc} {x : Rc} {n : ByteArray} (hx : ∀ r ∈ L, r.num ≠ x.num) : rfind (rput L x) n = if x.num = n then some x else rfind L n := by
  induction L with
  | nil => rfl
  | cons a r ih =>
    have ih' := ih fun y hy => hx y (List.mem_cons_of_mem _ hy)
    rw [rput]
    split
    · rfl
    · rw [rfind, ih', rfind]
      by_cases h1 : a.num = n
      · rw [if_pos h1, if_pos h1, if_neg]
        exact fun e => hx a List.mem_cons_self (h1.trans e.symm)
      · rw [if_neg h1, if_neg h1]
theorem rfind_rdel {L : List Rc} {n m : ByteArray} : rfind (rdel L n) m = if n = m then none else rfind L m := by
  induction L with
  | nil => rw [rdel]; simp [rfind]
  | cons a r ih =>
    by_cases h1 : a.num = n
    · rw [rdel, List.filter_cons_of_neg (by simp [h1]), ← rdel, ih, rfind]
      by_cases h2 : n = m
      · rw [if_pos h2, if_pos h2]
      · rw [if_neg h2, if_neg h2, if_neg (fun e => h2 (h1.symm.trans e))]
    · rw [rdel, List.filter_cons_of_pos (by simp [h1]), ← rdel, rfind, ih, rfind]
      by_cases h2 : n = m
      · rw [if_pos h2, if_pos h2, if_neg (fun e => h1 (e.trans h2.symm))]
      · rw [if_neg h2, if_neg h2]
theorem memB_app {n : ByteArray} {l m : List ByteArray} : memB n (l ++ m) = (memB n l || memB n m) := by simp [memB]
/-- A receipt laid into the map of receipts. -/
theorem HsAt.putR {w w' : World} {bh bm bu : Nat} {h h' : Hs} {es us : Mp.Ents} {n : ByteArray} {x : Rc} {lv : Value} (H : HsAt w bh bm bu h es us) (k : Keep (fun b => b = bm) w w') (hm : Mp.MapAt w' bm (Mp.mput es n (.agg (Rv.cells ⟨x, lv⟩))))
    (hs : Sl w' 2 lv (x.lots.map Lt.row)) (hn : h'.name = h.name) (hu : h'.used = h.used) (hL : ∀ m, rfind h'.L m = if n = m then some x else rfind h.L m) : HsAt w' bh bm bu h' (Mp.mput es n (.agg (Rv.cells ⟨x, lv⟩))) us :=
  ⟨by rw [hn]; exact k.blk H.box H.ne1, hm, MapAt.keep H.um k (fun e => H.ne e.symm), fun m r hr => by
    rw [hL] at hr
    split at hr
    · rename_i e
      obtain rfl := Option.some.inj hr
      exact ⟨lv, by rw [← e]; exact Mp.mget_mput_same _ _ _, hs⟩
    · rename_i e
      obtain ⟨lv', h1, h2⟩ := H.hit m r hr
      exact ⟨lv', by rw [Mp.mget_mput_other _ _ (fun q => e q.symm)]; exact h1, h2.keepM k (fun b hb j => by rw [show b = bm from hb]; exact map_no_cell H.rm j)⟩,
   fun m hr => by
    rw [hL] at hr
    split at hr
    · cases hr
    · rename_i e
      rw [Mp.mget_mput_other _ _ (fun q => e q.symm)]; exact H.miss m hr,
   by rw [hu]; exact H.uses, by rw [hu]; exact H.ul, H.ne⟩
/-- A receipt taken out. -/
theorem HsAt.delR {w w' : World} {bh bm bu : Nat} {h h' : Hs} {es us : Mp.Ents} {n : ByteArray} (H : HsAt w bh bm bu h es us) (k : Keep (fun b => b = bm) w w') (hm : Mp.MapAt w' bm (Mp.mdel es n))
    (hn : h'.name = h.name) (hu : h'.used = h.used) (hL : h'.L = rdel h.L n) : HsAt w' bh bm bu h' (Mp.mdel es n) us :=
  ⟨by rw [hn]; exact k.blk H.box H.ne1, hm, MapAt.keep H.um k (fun e => H.ne e.symm), fun m r hr => by
    rw [hL, rfind_rdel] at hr
    split at hr
    · cases hr
    · rename_i e
      obtain ⟨lv', h1, h2⟩ := H.hit m r hr
      exact ⟨lv', by rw [Mp.mget_mdel, if_neg e]; exact h1, h2.keepM k (fun b hb j => by rw [show b = bm from hb]; exact map_no_cell H.rm j)⟩,
   fun m hr => by
    rw [Mp.mget_mdel]
    rw [hL, rfind_rdel] at hr
    by_cases e : n = m
    · rw [if_pos e]
    · rw [if_neg e] at hr ⊢; exact H.miss m hr,
   by rw [hu]; exact H.uses, by rw [hu]; exact H.ul, H.ne⟩
/-- A number used. -/
theorem HsAt.use {w w' : World} {bh bm bu : Nat} {h h' : Hs} {es us : Mp.Ents} {n : ByteArray} (H : HsAt w bh bm bu h es us) (k : Keep (fun b => b = bu) w w') (hm : Mp.MapAt w' bu (Mp.mput us n (.bool true)))
    (hn : h'.name = h.name) (hu : h'.used = h.used ++ [n]) (hL : h'.L = h.L) (hnew : memB n h.used = false) : HsAt w' bh bm bu h' es (Mp.mput us n (.bool true)) :=
  ⟨by rw [hn]; exact k.blk H.box H.ne2, MapAt.keep H.rm k H.ne, hm, fun m r hr => by
    rw [hL] at hr
    obtain ⟨lv', h1, h2⟩ := H.hit m r hr
    exact ⟨lv', h1, h2.keepM k (fun b hb j => by rw [show b = bu from hb]; exact map_no_cell H.um j)⟩,
   fun m hr => H.miss m (by rw [hL] at hr; exact hr), fun m => by
    rw [hu, memB_app]
    by_cases e : m = n
    · subst e
      rw [Mp.mget_mput_same, if_pos (by simp [memB])]
    · rw [Mp.mget_mput_other _ _ e, H.uses]
      have : memB m [n] = false := by
        rw [memB_no]
        simpa using e
      rw [this, Bool.or_false],
   by
    have h0 : Mp.mget us n = none := by rw [H.uses, if_neg (by rw [hnew]; decide)]
    rw [Mp.mput_new _ (Mp.mget_none.1 h0), hu, List.length_append, List.length_append, H.ul]; rfl, H.ne⟩
/-- What a call of the house does. -/
def HsP (w : World) (bh bm bu : Nat) (h : Hs) (c : Int) (e : Ending) (w' : World) : Prop := e = .returned (.int .i64 c) ∧ Keep (fun b => b = bm ∨ b = bu) w w' ∧ Hsx w' bh bm bu h
set_option maxHeartbeats 1000000 in
theorem newH_any (name : ByteArray) (w : World) : Calls Tryz.prog 12 #[.string name] w (fun e w' => Below w.heap.size w w' ∧ ∃ bh bm bu, e = .returned (.pointer (some ⟨bh, 0, none⟩)) ∧ Hsx w' bh bm bu ⟨name, [], []⟩ ∧ w.heap.size ≤ bh ∧ w.heap.size ≤ bm ∧ w.heap.size ≤ bu) := by
  have t1 : ∀ W : World, (Instr.makeMap 58 none).run Tryz.prog W = .ok (.map (some W.heap.size)) (W.alloc (.map #[] 0)) := fun W => by kernel_rfl
  have t2 : ∀ W : World, (Instr.makeMap 59 none).run Tryz.prog W = .ok (.map (some W.heap.size)) (W.alloc (.map #[] 0)) := fun W => by kernel_rfl
  go_enter Tryz.func12, Tryz.ntmps12
  go_wp2_with fail
  go_ret
  have e1 : (w.alloc (.map #[] 0)).heap.size = w.heap.size + 1 := by simp
  have e2 : ((w.alloc (.map #[] 0)).alloc (.map #[] 0)).heap.size = w.heap.size + 2 := by simp
  have m1 := Mp.MapAt.made w
  have m2 := Mp.MapAt.made (w.alloc (.map #[] 0))
  rw [e1] at m2
  have b1 := one_below (w.alloc (.map #[] 0)) (.map #[] 0)
  have b2 := one_below ((w.alloc (.map #[] 0)).alloc (.map #[] 0)) (.cells #[.string name, .map (some w.heap.size), .map (some (w.heap.size + 1))] 61)
  refine ⟨((one_below w _).alloc (by simp) _).alloc (by simp; omega) _, w.heap.size + 2, w.heap.size, w.heap.size + 1, by first | rfl | simp, ⟨[], [], ?_⟩, by omega, by omega, by omega⟩
  refine { box := ?_, rm := ?_, um := ?_, hit := fun n r hr => (by cases hr), miss := fun n _ => rfl, uses := fun n => rfl, ul := rfl, ne := (by omega) }
  · have := heap_alloc_new ((w.alloc (.map #[] 0)).alloc (.map #[] 0)) (.cells #[.string name, .map (some w.heap.size), .map (some (w.heap.size + 1))] 61)
    rwa [e2] at this
  · exact (m1.same (b1.block _ (by omega))).same (b2.block _ (by omega))
  · exact m2.same (b2.block _ (by omega))
end Go.Proofs.YticnmmfiadpbbaaGreat.Sc
