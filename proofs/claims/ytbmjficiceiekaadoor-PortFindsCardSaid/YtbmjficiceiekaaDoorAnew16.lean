/- search.anew. -/
import Derived.Test.YtbmjficiceiekaaDoorAnewPl16
import Derived.Test.YtbmjficiceiekaaDoorGuard
namespace Go.Proofs.YtbmjficiceiekaaDoor.Sc
open Go Go.RowKit Go.ChangeShapes Go.WideShapes Go.ChangeAt Go.Shelf
set_option maxRecDepth 100000
attribute [local go_sem] Oper.semAt_some

def AnewP (w : World) (F : Fr) (e : Ending) (w' : World) : Prop := ∃ bf es, e = .returned (.map (some bf)) ∧ Mp.MapAt w' bf es ∧ FEnts es F ∧ w.heap.size ≤ bf ∧ Below w.heap.size w w'
/-- Between two rounds. -/
structure AnI (V : List Vm) (R : Rf) (fr : ByteArray) (W0 : World) (bf : Nat) (pre : List (LgS V)) (W : World) : Prop where
  map : ∃ es, Mp.MapAt W bf es ∧ FEnts es (freshF V R fr (pre.map Subtype.val))
  keep : Keep (fun b => b = bf ∨ W0.heap.size ≤ b) W0 W
theorem AnI.own {V : List Vm} {R : Rf} {fr : ByteArray} {W0 : World} {bf : Nat} (hbf : bf < W0.heap.size) : OwnFrom W0.heap.size (AnI V R fr W0 bf) := fun s W W' row hs hg hr => by
  obtain ⟨⟨es, hm, hf⟩, hk⟩ := hs
  refine ⟨⟨es, hm.same (hg.block bf hm.lt (fun e => ?_)), hf⟩, hk.trans (Keep.of_grown hg) (fun i _ e => ?_)⟩
  · have := (hr bf e.symm).1; omega
  · exact .inr (hr i e).1
theorem anI_below {V : List Vm} {R : Rf} {fr : ByteArray} {W0 : World} {bf : Nat} {pre : List (LgS V)} {x : LgS V} {W W' : World} (h : AnI V R fr W0 bf pre W) (hb : Below W.heap.size W W') (hs : stepF V R fr (freshF V R fr (pre.map Subtype.val)) x.1 = freshF V R fr (pre.map Subtype.val)) :
    KeepsFrom W0.heap.size W W' ∧ KpF bf W0.heap.size W W' ∧ AnI V R fr W0 bf (pre ++ [x]) W' := by
  obtain ⟨⟨es, hm, hf⟩, hk⟩ := h
  refine ⟨⟨hb.size, fun k o _ hk _ => blk hb (lt_blk hk) hk⟩, KpF.of_below hb, ⟨es, hm.same (hb.block _ hm.lt), ?_⟩, hk.trans (Keep.of_below (F := fun _ => False) hb) (fun _ _ h => h.elim)⟩
  rw [List.map_append, List.map_singleton, freshF_snoc, hs]
  exact hf
theorem anI_put {V : List Vm} {R : Rf} {fr : ByteArray} {W0 : World} {bf : Nat} {pre : List (LgS V)} {x : LgS V} {W W1 W' : World} {p : ByteArray} {es : Mp.Ents} (h : AnI V R fr W0 bf pre W) (hb : Below W.heap.size W W1) (hbf : bf < W0.heap.size) (hf : FEnts es (freshF V R fr (pre.map Subtype.val)))
    (hg : W1.grownBy W' (some bf)) (hm : Mp.MapAt W' bf (Mp.mput es p (.agg x.1.cells))) (hs : stepF V R fr (freshF V R fr (pre.map Subtype.val)) x.1 = updF (freshF V R fr (pre.map Subtype.val)) p x.1) :
    KeepsFrom W0.heap.size W W' ∧ KpF bf W0.heap.size W W' ∧ AnI V R fr W0 bf (pre ++ [x]) W' := by
  obtain ⟨-, hk⟩ := h
  refine ⟨KeepsFrom.trans ⟨hb.size, fun k o _ hk _ => blk hb (lt_blk hk) hk⟩ (KeepsFrom.of_grownBy hg (fun j e => by cases e; exact hbf)), (KpF.of_below hb).trans (KpF.of_grown hg), ⟨_, hm, ?_⟩, (hk.trans (Keep.of_below (F := fun _ => False) hb) (fun _ _ h => h.elim)).trans (Keep.of_grown hg) (fun i _ e => .inl (Option.some.inj e).symm)⟩
  rw [List.map_append, List.map_singleton, freshF_snoc, hs]
  exact hf.put p x.1
set_option maxHeartbeats 8000000 in
theorem anew_any (V : List Vm) (vv : Value) (fr : ByteArray) (ch : Int) (bm : Nat) (esR : Mp.Ents) (R : Rf) (w : World) (hs : VsAt w vv V) (hm : Mp.MapAt w bm esR) (hR : RDay esR R) (hch : 0 ≤ ch ∧ ch ≤ 1048576) (hRB : ∀ p d ls, R p = some (d, ls) → p ≠ fr → 0 ≤ d ∧ d ≤ 1048576) :
    Calls Tryd.prog 29 #[.agg (seaC vv fr ch), .map (some bm)] w (AnewP w (freshF V R fr (restV R fr ch V 0))) := by
  have HS := Lib.hid hs
  have HM := Lib.hid hm
  have HR := Lib.hid hR
  have HRB := Lib.hid hRB
  have HCH := Lib.hid hch
  have HRA := Lib.hid (fun W => round_any vv fr ch bm W)
  have HMADE := Lib.hid (fun W : World => Mp.MapAt.made W)
  have hmm := @run_makeMap Tryd.prog
  clear hs hm hR hRB hch
  simp only [seaC] at HRA ⊢
  refine (callsIn_wide (n := 3)).1 ?_
  refine callsIn_of_wp_marks Tryd.func29 rfl trivial ?_ rfl
  simp only [Tryd.ntmps29, List.size_toArray, List.length_cons, List.length_nil, Nat.reduceAdd, Nat.reduceSub, Array.replicate_succ, Array.replicate_zero, List.push_toArray, List.append_toArray, List.nil_append, List.cons_append]
  gi_wp2_with (first
    | ((with_reducible refine ⟨Any.isWide.fn _, (Any.isWide.calls (HRA.out _)).mono ?_⟩); rintro e w1 ⟨rfl, hw1⟩; have HW1 := Lib.hid hw1; clear hw1)
    | fail)
  have hw1 := HW1.out
  clear HW1
  have HB1 : Hid (Below w.heap.size w w1) := Lib.hid (by
    rw [hw1]
    exact (((((one_below w _).alloc (by simp) _).alloc (by simp <;> omega) _).alloc (by simp <;> omega) _).alloc (by simp <;> omega) _).alloc (by simp <;> omega) _)
  have hsz : w1.heap.size = w.heap.size + 6 := by rw [hw1]; simp
  have h0 : w1.heap[w.heap.size]? = some (.cells #[vv, .string fr, .int .i64 ch] 52 (0, 0)) := by
    rw [hw1]
    exact blk (one_below _ _) (by simp <;> omega) (blk (one_below _ _) (by simp <;> omega) (blk (one_below _ _) (by simp <;> omega) (blk (one_below _ _) (by simp <;> omega) (blk (one_below _ _) (by simp) (heap_alloc_new w _)))))
  have h1 : w1.heap[w.heap.size + 1]? = some (.cells #[.map (some bm)] 56 (0, 0)) := by
    rw [hw1]
    refine blk (one_below _ _) (by simp <;> omega) (blk (one_below _ _) (by simp <;> omega) (blk (one_below _ _) (by simp <;> omega) (blk (one_below _ _) (by simp) ?_)))
    simpa using heap_alloc_new (w.alloc (.cells #[vv, .string fr, .int .i64 ch] 52)) (.cells #[.map (some bm)] 56)
  have h2 : w1.heap[w.heap.size + 1 + 1]? = some (.map #[] 0) := by
    rw [hw1]
    refine blk (one_below _ _) (by simp <;> omega) (blk (one_below _ _) (by simp <;> omega) (blk (one_below _ _) (by simp) ?_))
    simpa using heap_alloc_new ((w.alloc (.cells #[vv, .string fr, .int .i64 ch] 52)).alloc (.cells #[.map (some bm)] 56)) (.map #[] 0)
  have h3 : w1.heap[w.heap.size + 1 + 1 + 1]? = some (.cells #[.map (some (w.heap.size + 1 + 1))] 57 (0, 0)) := by
    rw [hw1]
    refine blk (one_below _ _) (by simp <;> omega) (blk (one_below _ _) (by simp) ?_)
    simpa using heap_alloc_new (((w.alloc (.cells #[vv, .string fr, .int .i64 ch] 52)).alloc (.cells #[.map (some bm)] 56)).alloc (.map #[] 0)) (.cells #[.map (some (w.heap.size + 1 + 1))] 57)
  have h4 : w1.heap[w.heap.size + 1 + 1 + 1 + 1]? = some (.cells #[vv, .string fr, .int .i64 ch] 52 (0, 0)) := by
    rw [hw1]
    refine blk (one_below _ _) (by simp) ?_
    simpa using heap_alloc_new ((((w.alloc (.cells #[vv, .string fr, .int .i64 ch] 52)).alloc (.cells #[.map (some bm)] 56)).alloc (.map #[] 0)).alloc (.cells #[.map (some (w.heap.size + 1 + 1))] 57)) (.cells #[vv, .string fr, .int .i64 ch] 52)
  have h5 : w1.heap[w.heap.size + 1 + 1 + 1 + 1 + 1]? = some (.cells #[.map (some bm)] 56 (0, 0)) := by
    rw [hw1]
    simpa using heap_alloc_new (((((w.alloc (.cells #[vv, .string fr, .int .i64 ch] 52)).alloc (.cells #[.map (some bm)] 56)).alloc (.map #[] 0)).alloc (.cells #[.map (some (w.heap.size + 1 + 1))] 57)).alloc (.cells #[vv, .string fr, .int .i64 ch] 52)) (.cells #[.map (some bm)] 56)
  clear hw1
  generalize e1 : w.heap.size + 1 = b1 at *
  generalize e2 : b1 + 1 = bf at *
  generalize e3 : bf + 1 = b3 at *
  generalize e4 : b3 + 1 = b4 at *
  generalize e5 : b4 + 1 = b5 at *
  obtain ⟨b0, e0⟩ : ∃ b0, b0 = w.heap.size := ⟨_, rfl⟩
  rw [← e0] at h0 ⊢
  have HSZ : Hid (b0 = w.heap.size ∧ b1 = w.heap.size + 1 ∧ bf = w.heap.size + 2 ∧ b3 = w.heap.size + 3 ∧ b4 = w.heap.size + 4 ∧ b5 = w.heap.size + 5 ∧ w1.heap.size = w.heap.size + 6) := Lib.hid (by omega)
  have HH := Lib.hid (And.intro h0 (And.intro h1 (And.intro h2 (And.intro h3 (And.intro h4 h5)))))
  have HIB3 := Lib.hid h3
  clear h0 h1 h2 h3 h4 h5 e0 e1 e2 e3 e4 e5 hsz
  have HBF : Hid (bf < w1.heap.size) := Lib.hid (by have := HSZ.out; omega)
  have hMF0 : Mp.MapAt w1 bf [] := ⟨#[], 0, HH.out.2.2.1, trivial, by simp, by simp, by simp [Mp.mkeys]⟩
  have HMF0 := Lib.hid hMF0
  clear hMF0
  have HIR : Hid (∀ W, Below w1.heap.size w1 W → IterR W bf w1.heap.size b4 b5 bm vv V fr ch esR) := Lib.hid (fun W hb => by
    have hb0 := HB1.out.trans (hb.mono HB1.out.size)
    have hz := HSZ.out
    have hbm := HM.out.lt
    exact ⟨blk hb (by omega) HH.out.2.2.2.2.1, blk hb (by omega) HH.out.2.2.2.2.2, HM.out.same (hb0.block _ HM.out.lt), HS.out.below hb0, ⟨by omega, by omega⟩, ⟨by omega, by omega⟩, ⟨by omega, by omega⟩, fun e b h => by have := HS.out.1.own_lt (by simpa using e) b h; omega, fun x hx e b h => by have := (HS.out.2 x hx).own_lt (by simpa using e) b h; omega⟩)
  refine wpIn_rangeFunc_ownH (α := LgS V) rfl (by decide) (gf := 54) (lb := #[.pointer (some ⟨b4, 0, none⟩), .pointer (some ⟨b5, 0, none⟩)]) rfl trivial (enters_of Tryd.func54 (by kernel_rfl) rfl)
    (encs := encL) (Kp := KpF bf w1.heap.size) (S := fun xs => xs.map Subtype.val = restV R fr ch V 0) (Sp := fun _ => True) (N := (restV R fr ch V 0).length) (w0 := w1)
    (fun l J Jx W hW hJ _ hY h0 => iter_in _ l bf w1.heap.size b4 b5 bm vv V fr ch esR R J Jx W (HIR.out W hW) HR.out HCH.out HRB.out hJ hW.size HBF.out hY h0)
    (fun h k => KpF.trans h k) (fun W l o o' hl ho hc _ => KpF.putObj W l o o' hl ho hc) (Below.refl _ _) (fun _ => rfl)
    (AnI V R fr w1 bf) (fun _ _ _ => False) (AnI.own HBF.out) (fun _ _ _ _ _ hs _ _ => hs) ⟨⟨[], HMF0.out, fun p => rfl⟩, Keep.refl _ _⟩
    (fun x a' W => ∃ Bx, w1.heap.size ≤ Bx ∧ W.heap[Bx]? = some (.cells x.1.cells 37 (0, 0)) ∧ a' = { tmps := #[.agg #[vv, .string fr, .int .i64 ch], .map (some bm), .pointer (some ⟨b0, 0, none⟩), .pointer (some ⟨b1, 0, none⟩), .map none, .pointer (some ⟨b3, 0, none⟩), .pointer (some ⟨Bx, 0, none⟩), undef, undef, undef, undef, undef, .map (some bf), .agg #[vv, .string fr, .int .i64 ch], .map (some bm), .func (.func 54) #[] #[.pointer (some ⟨b4, 0, none⟩), .pointer (some ⟨b5, 0, none⟩)], .agg x.1.cells, undef, undef, undef, undef, undef, undef, undef, undef, undef, undef, undef, undef, undef, undef, undef, undef, undef, undef, undef, undef, undef, undef, undef, undef, undef, undef, undef, undef, undef, undef, undef, undef, undef, undef, undef, undef, undef, undef, undef, undef, undef, undef, undef, undef, undef], defers := [] })
    (fun x a' s W W' row hs hg hr => by
      obtain ⟨Bx, h1, h2, h3⟩ := hs
      refine ⟨Bx, h1, (hg.block Bx (lt_blk h2) (fun e => ?_)).trans h2, h3⟩
      obtain ⟨_, o, ho, hc⟩ := hr Bx e.symm
      rw [h2] at ho
      obtain rfl := Option.some.inj ho
      cases hc) ?assign ?body ?done ?stop
  case assign =>
    rintro l pre ⟨⟨xv, xf, xt⟩, hx⟩ W K hi hK
    have hsz := hi.keep.size
    simp only [encL, Lg.cells]
    gi_wp2
    have hb := one_below W (.cells #[.int .i64 (xv : Int), .int .i64 (xf : Int), .int .i64 (xt : Int)] 37)
    exact hK _ _ ((KeepsOthers.alloc _ _).from _) (KpF.of_below hb) (AnI.own HBF.out pre W _ none hi (World.grownBy_alloc W _ none) (fun r e => by cases e)) ⟨W.heap.size, hsz, heap_alloc_new _ _, rfl⟩
  case body =>
    rintro l pre ⟨⟨xv, xf, xt⟩, hx⟩ a' W hl - hI ⟨Bx, hBx, hbx, rfl⟩ -
    have HI := Lib.hid hI
    obtain ⟨es, hme, hfe⟩ := hI.map
    have hk := hI.keep
    have HFE := Lib.hid hfe
    have HKW : Hid (Below w.heap.size w W) := Lib.hid (hk.behind HB1.out HB1.out.size (fun k hlt e => by have := HSZ.out; omega))
    have HMF : Hid (∀ W', Below W.heap.size W W' → Mp.MapAt W' bf es) := Lib.hid (fun W' hb => hme.same (hb.block _ hme.lt))
    have HMR : Hid (∀ W', Below W.heap.size W W' → Mp.MapAt W' bm esR) := Lib.hid (fun W' hb => HM.out.same ((HKW.out.trans (hb.mono HKW.out.size)).block _ HM.out.lt))
    have HVS : Hid (∀ W', Below W.heap.size W W' → VsAt W' vv V) := Lib.hid (fun W' hb => HS.out.below (HKW.out.trans (hb.mono HKW.out.size)))
    have HFX : Hid (∀ W', Below W.heap.size W W' → W'.cell? ⟨b0, 0, none⟩ = some vv ∧ W'.cell? ⟨b0, 1, none⟩ = some (.string fr) ∧ W'.cell? ⟨b0, 2, none⟩ = some (.int .i64 ch) ∧ W'.cell? ⟨b1, 0, none⟩ = some (.map (some bm)) ∧ W'.cell? ⟨b3, 0, none⟩ = some (.map (some bf)) ∧
        W'.cell? ⟨Bx, 0, none⟩ = some (.int .i64 (xv : Int)) ∧ W'.cell? ⟨Bx, 1, none⟩ = some (.int .i64 (xf : Int)) ∧ W'.cell? ⟨Bx, 2, none⟩ = some (.int .i64 (xt : Int)) ∧ b0 < W'.heap.size ∧ b1 < W'.heap.size ∧ b3 < W'.heap.size ∧ Bx < W'.heap.size) := Lib.hid (fun W' hb => by
      have hz := HSZ.out
      have k0 := hk.blk HH.out.1 (by omega)
      have k1 := hk.blk HH.out.2.1 (by omega)
      have k3 := hk.blk HH.out.2.2.2.1 (by omega)
      have m0 := blk hb (lt_blk k0) k0
      have m1 := blk hb (lt_blk k1) k1
      have m3 := blk hb (lt_blk k3) k3
      have mx := blk hb (lt_blk hbx) hbx
      exact ⟨cell_blk m0 0, cell_blk m0 1, cell_blk m0 2, cell_blk m1 0, cell_blk m3 0, cell_blk mx 0, cell_blk mx 1, cell_blk mx 2, lt_blk m0, lt_blk m1, lt_blk m3, lt_blk mx⟩)
    obtain ⟨⟨cp, cu, ca, cd⟩, hc⟩ := lgOk_arr hx
    have HA1 := Lib.hid (arrive_any V vv fr ch ⟨xv, xf, xt⟩ ⟨cp, cu, ca, cd⟩ W (HVS.out W (Below.refl _ _)) hc)
    simp only [seaC, Lg.cells, Cl.cells] at HA1
    have HFO := Lib.hid (freshF_ok (V := V) R fr (pre.map Subtype.val) (fun y hy => by
      obtain ⟨z, _, rfl⟩ := List.mem_map.1 hy
      exact z.2))
    have hst : stepF V R fr (freshF V R fr (pre.map Subtype.val)) ⟨xv, xf, xt⟩ = if cp = fr then freshF V R fr (pre.map Subtype.val) else if lateR R ⟨cp, cu, ca, cd⟩ = true then freshF V R fr (pre.map Subtype.val) else if lateF V (freshF V R fr (pre.map Subtype.val)) ⟨cp, cu, ca, cd⟩ = true then freshF V R fr (pre.map Subtype.val) else updF (freshF V R fr (pre.map Subtype.val)) cp ⟨xv, xf, xt⟩ := by
      unfold stepF
      rw [hc]
    have HSTF : Hid (cp = fr → stepF V R fr (freshF V R fr (pre.map Subtype.val)) ⟨xv, xf, xt⟩ = freshF V R fr (pre.map Subtype.val)) := Lib.hid (fun h => by rw [hst, if_pos h])
    have HSTR0 : Hid (¬ cp = fr → lateR R ⟨cp, cu, ca, cd⟩ = true → stepF V R fr (freshF V R fr (pre.map Subtype.val)) ⟨xv, xf, xt⟩ = freshF V R fr (pre.map Subtype.val)) := Lib.hid (fun h h2 => by rw [hst, if_neg h, if_pos h2])
    have HSTG0 : Hid (¬ cp = fr → lateR R ⟨cp, cu, ca, cd⟩ = false → (lateF V (freshF V R fr (pre.map Subtype.val)) ⟨cp, cu, ca, cd⟩ = false → stepF V R fr (freshF V R fr (pre.map Subtype.val)) ⟨xv, xf, xt⟩ = updF (freshF V R fr (pre.map Subtype.val)) cp ⟨xv, xf, xt⟩) ∧
        (lateF V (freshF V R fr (pre.map Subtype.val)) ⟨cp, cu, ca, cd⟩ = true → stepF V R fr (freshF V R fr (pre.map Subtype.val)) ⟨xv, xf, xt⟩ = freshF V R fr (pre.map Subtype.val))) := Lib.hid (fun h h2 => ⟨fun h3 => by rw [hst, if_neg h, if_neg (by rw [h2]; exact Bool.false_ne_true), if_neg (by rw [h3]; exact Bool.false_ne_true)], fun h3 => by rw [hst, if_neg h, if_neg (by rw [h2]; exact Bool.false_ne_true), if_pos h3]⟩)
    obtain ⟨y0, y1, y2, y3, y4, y5, y6, y7, l0, l1, l3, lx⟩ := HFX.out W (Below.refl _ _)
    simp only [Lg.cells]
    clear hI hme hfe hk hst hc hbx HIR HH HMF0 HRA HMADE hmm
    by_cases hf : cp = fr
    · have s1 : (cp.toList == fr.toList) = true := by rw [str_beq, decide_eq_true hf]
      have HST := Lib.hid (HSTF.out hf)
      clear hf
      gi_wp2_with (first
        | ((with_reducible refine ⟨Any.isWide.fn _, ((Any.isWide_round l).calls HA1.out).mono ?_⟩); rintro e w2 ⟨rfl, hb2⟩
           have HB2 := Lib.hid hb2
           have HF2 := Lib.hid (HFX.out w2 hb2)
           obtain ⟨y0, y1, y2, y3, y4, y5, y6, y7, l0, l1, l3, lx⟩ := HF2.out
           have HC2 := Lib.hid (heap_alloc_new w2 (.cells #[.string cp, .int .i64 cu, .int .i64 ca, .int .i64 cd] 39))
           have HM2 : Hid (Mp.MapAt (w2.alloc (.cells #[.string cp, .int .i64 cu, .int .i64 ca, .int .i64 cd] 39)) bm esR) := Lib.hid (HMR.out _ (hb2.alloc hb2.size _))
           have HZ2 : Hid (∀ o1, Mp.MapAt ((w2.alloc (.cells #[.string cp, .int .i64 cu, .int .i64 ca, .int .i64 cd] 39)).alloc o1) bf es) := Lib.hid (fun o1 => HMF.out _ ((hb2.alloc hb2.size _).alloc (by rw [size_al]; have := hb2.size; omega) _))
           clear hb2)
        | fail)
      exact anI_below HI.out (HB2.out.alloc HB2.out.size _) HST.out
    · have s1 : (cp.toList == fr.toList) = false := by rw [str_beq, decide_eq_false hf]
      have HSTR := Lib.hid (HSTR0.out hf)
      have HSTG := Lib.hid (HSTG0.out hf)
      clear hf
      have HRP := Lib.hid (HR.out cp)
      cases hrp : R cp with
      | none =>
        rw [hrp] at HRP
        have HRG : Hid (Mp.mget esR cp = none) := Lib.hid HRP.out
        have HSTU := Lib.hid (fun h => (HSTG.out (by unfold lateR; rw [hrp])).1 h)
        have HSTS := Lib.hid (fun h => (HSTG.out (by unfold lateR; rw [hrp])).2 h)
        clear hrp
        cases hF : freshF V R fr (pre.map Subtype.val) cp with
        | none =>
          have HFG : Hid (Mp.mget es cp = none) := Lib.hid (by rw [HFE.out cp, hF]; rfl)
          have HST := Lib.hid (HSTU.out (by unfold lateF; rw [hF]; rfl))
          gi_wp2_with (first
            | ((with_reducible refine ⟨Any.isWide.fn _, ((Any.isWide_round l).calls HA1.out).mono ?_⟩); rintro e w2 ⟨rfl, hb2⟩
               have HB2 := Lib.hid hb2
               have HF2 := Lib.hid (HFX.out w2 hb2)
               obtain ⟨y0, y1, y2, y3, y4, y5, y6, y7, l0, l1, l3, lx⟩ := HF2.out
               have HC2 := Lib.hid (heap_alloc_new w2 (.cells #[.string cp, .int .i64 cu, .int .i64 ca, .int .i64 cd] 39))
               have HM2 : Hid (Mp.MapAt (w2.alloc (.cells #[.string cp, .int .i64 cu, .int .i64 ca, .int .i64 cd] 39)) bm esR) := Lib.hid (HMR.out _ (hb2.alloc hb2.size _))
               have HZ2 : Hid (∀ o1, Mp.MapAt ((w2.alloc (.cells #[.string cp, .int .i64 cu, .int .i64 ca, .int .i64 cd] 39)).alloc o1) bf es) := Lib.hid (fun o1 => HMF.out _ ((hb2.alloc hb2.size _).alloc (by rw [size_al]; have := hb2.size; omega) _))
               have HBS : Hid (Below W.heap.size W (((w2.alloc (.cells #[.string cp, .int .i64 cu, .int .i64 ca, .int .i64 cd] 39)).alloc (.cells #[.int .i64 0, .slice none 0 0] 55)).alloc (.cells #[.int .i64 0, .int .i64 0, .int .i64 0] 37))) := Lib.hid (((HB2.out.alloc HB2.out.size _).alloc (by rw [size_al]; have := HB2.out.size; omega) _).alloc (by rw [size_al, size_al]; have := HB2.out.size; omega) _)
               have HQP : Hid (∀ w6, Below (((w2.alloc (.cells #[.string cp, .int .i64 cu, .int .i64 ca, .int .i64 cd] 39)).alloc (.cells #[.int .i64 0, .slice none 0 0] 55)).alloc (.cells #[.int .i64 0, .int .i64 0, .int .i64 0] 37)).heap.size (((w2.alloc (.cells #[.string cp, .int .i64 cu, .int .i64 ca, .int .i64 cd] 39)).alloc (.cells #[.int .i64 0, .slice none 0 0] 55)).alloc (.cells #[.int .i64 0, .int .i64 0, .int .i64 0] 37)) w6 → w6.cell? ⟨w2.heap.size, 0, none⟩ = some (.string cp)) := Lib.hid (fun w6 h6 => cell_blk (blk h6 (by simp <;> omega) (blk (one_below _ _) (by simp <;> omega) (blk (one_below _ _) (by simp) HC2.out))) 0)
               clear hb2)
            | ((with_reducible refine Mp.wplIn_miss (Any.isWide_round l) (b := bm) (l := esR) (key := cp) ?_ ?_ ?_ Tryd.underlying56 Tryd.underlying9 (zeroStop _) HM2.out HRG.out ?_); rfl; rfl; rfl)
            | ((with_reducible refine Mp.wplIn_miss (Any.isWide_round l) (b := bf) (l := es) (key := cp) ?_ ?_ ?_ Tryd.underlying57 Tryd.underlying9 (zeroLeg _) (HZ2.out _) HFG.out ?_); rfl; rfl; rfl)
            | fail)
          refine Any.region_litIn (Any.isWide_round l) (fun
            | 0 => Any.val (.bool false)
            | 1 => Any.val (.bool false)
            | 2 => Any.idle
            | 3 => Any.idle
            | 4 => Any.idle
            | 5 => Any.idle
            | 6 => Any.idle
            | 7 => Any.idle
            | 8 => Any.idle
            | 9 => Any.val (.bool false)
            | _ => Any.idle) (by kernel_rfl) (by kernel_rfl) (by kernel_rfl) (by kernel_rfl) ?_ ?_ ?_
          · intro i _
            match i with
            | 0 => exact Any.lasts_val _
            | 1 => exact Any.lasts_val _
            | 2 => exact Any.lasts_idle
            | 3 => exact Any.lasts_idle
            | 4 => exact Any.lasts_idle
            | 5 => exact Any.lasts_idle
            | 6 => exact Any.lasts_idle
            | 7 => exact Any.lasts_idle
            | 8 => exact Any.lasts_idle
            | 9 => exact Any.lasts_val _
            | n + 10 => exact Any.lasts_idle
          · refine ⟨?_, ?_, ?_, ?_, ?_, ?_, ?_, ?_, ?_, ?_, trivial⟩
            · refine Any.owes_plain rfl fun ρ wo hs' hb hc' => ?_
              have h11 : ρ (.tmp 11) = .bool false := hs'.old' 11 (by kernel_rfl)
              exact Any.ok_move (Any.post_val hb rfl h11)
            · refine Any.owes_plain rfl fun ρ wo hs' hb hc' => ?_
              have h47 : ρ (.tmp 47) = .bool false := hs'.new' 47 0 (by kernel_rfl)
              exact Any.ok_move (Any.post_val hb rfl h47)
            · exact Any.owes_off rfl rfl (by kernel_rfl) rfl (by decide) rfl
            · exact Any.owes_off rfl rfl (by kernel_rfl) rfl (by decide) rfl
            · exact Any.owes_off rfl rfl (by kernel_rfl) rfl (by decide) rfl
            · exact Any.owes_off rfl rfl (by kernel_rfl) rfl (by decide) rfl
            · exact Any.owes_off rfl rfl (by kernel_rfl) rfl (by decide) rfl
            · exact Any.owes_off rfl rfl (by kernel_rfl) rfl (by decide) rfl
            · exact Any.owes_off rfl rfl (by kernel_rfl) rfl (by decide) rfl
            · refine Any.owes_plain rfl fun ρ wo hs' hb hc' => ?_
              have h48 : ρ (.tmp 48) = .bool false := hs'.new' 48 1 (by kernel_rfl)
              go_simp
              exact Any.post_val hb rfl rfl
          · intro vals w6 hb hk ha
            have h9 : vals 9 = .bool false := hk 9 (by kernel_rfl)
            have HB6 := Lib.hid hb
            clear hk ha hb
            simp only [Any.putAll]
            go_frame
            simp only [Nat.zero_add, Nat.reduceAdd]
            rw [h9]
            have HF6 := Lib.hid (HFX.out w6 (HBS.out.trans (HB6.out.mono HBS.out.size)))
            obtain ⟨y0, y1, y2, y3, y4, y5, y6, y7, l0, l1, l3, lx⟩ := HF6.out
            have q0 := HQP.out w6 HB6.out
            have HM6 := Lib.hid (HMF.out w6 (HBS.out.trans (HB6.out.mono HBS.out.size)))
            gi_wp2_with (first
              | ((with_reducible refine Mp.wplIn_update (Any.isWide_round l) (b := bf) (l := es) (key := cp) (v := .agg #[.int .i64 (xv : Int), .int .i64 (xf : Int), .int .i64 (xt : Int)]) ?_ ?_ ?_ ?_ Tryd.underlying57 Tryd.underlying9 HM6.out ?_); rfl; rfl; rfl; rfl; intro w7 hm7 hg7 _; have HM7 := Lib.hid hm7; have HG7 := Lib.hid hg7; clear hm7 hg7; go_frame)
              | fail)
            exact anI_put (x := ⟨⟨xv, xf, xt⟩, hx⟩) HI.out (HBS.out.trans (HB6.out.mono HBS.out.size)) HBF.out HFE.out HG7.out HM7.out HST.out
        | some y =>
          have HFG0 : Hid (Mp.mget es cp = some (.agg y.cells)) := Lib.hid (by rw [HFE.out cp, hF]; rfl)
          obtain ⟨hy, ⟨g, hgc, hgp⟩, -⟩ := HFO.out cp y hF
          have HGA0 := Lib.hid hgc
          have HLF : Hid (lateF V (freshF V R fr (pre.map Subtype.val)) ⟨cp, cu, ca, cd⟩ = decide (g.arr ≤ ca)) := Lib.hid (by unfold lateF; simp only; rw [hF, Option.bind_some, hgc])
          clear hy hgc hgp hF
          obtain ⟨yv, yf, yt⟩ := y
          obtain ⟨gp, gu, ga, gd⟩ := g
          have HGA := Lib.hid HGA0.out
          have HFG : Hid (Mp.mget es cp = some (.agg #[.int .i64 (yv : Int), .int .i64 (yf : Int), .int .i64 (yt : Int)])) := Lib.hid HFG0.out
          simp only at HLF
          by_cases hq : ga ≤ ca
          · have HST := Lib.hid (HSTS.out (by rw [HLF.out, decide_eq_true hq]))
            have tq : decide (ga ≤ ca) = true := decide_eq_true hq
            clear hq
            gi_wp2_with (first
              | ((with_reducible refine ⟨Any.isWide.fn _, ((Any.isWide_round l).calls HA1.out).mono ?_⟩); rintro e w2 ⟨rfl, hb2⟩
                 have HB2 := Lib.hid hb2
                 have HF2 := Lib.hid (HFX.out w2 hb2)
                 obtain ⟨y0, y1, y2, y3, y4, y5, y6, y7, l0, l1, l3, lx⟩ := HF2.out
                 have HC2 := Lib.hid (heap_alloc_new w2 (.cells #[.string cp, .int .i64 cu, .int .i64 ca, .int .i64 cd] 39))
                 have HM2 : Hid (Mp.MapAt (w2.alloc (.cells #[.string cp, .int .i64 cu, .int .i64 ca, .int .i64 cd] 39)) bm esR) := Lib.hid (HMR.out _ (hb2.alloc hb2.size _))
                 have HZ2 : Hid (∀ o1, Mp.MapAt ((w2.alloc (.cells #[.string cp, .int .i64 cu, .int .i64 ca, .int .i64 cd] 39)).alloc o1) bf es) := Lib.hid (fun o1 => HMF.out _ ((hb2.alloc hb2.size _).alloc (by rw [size_al]; have := hb2.size; omega) _))
                 have HBS : Hid (Below W.heap.size W (((w2.alloc (.cells #[.string cp, .int .i64 cu, .int .i64 ca, .int .i64 cd] 39)).alloc (.cells #[.int .i64 0, .slice none 0 0] 55)).alloc (.cells #[.int .i64 (yv : Int), .int .i64 (yf : Int), .int .i64 (yt : Int)] 37))) := Lib.hid (((HB2.out.alloc HB2.out.size _).alloc (by rw [size_al]; have := HB2.out.size; omega) _).alloc (by rw [size_al, size_al]; have := HB2.out.size; omega) _)
                 have HQP : Hid (∀ w6, Below (((w2.alloc (.cells #[.string cp, .int .i64 cu, .int .i64 ca, .int .i64 cd] 39)).alloc (.cells #[.int .i64 0, .slice none 0 0] 55)).alloc (.cells #[.int .i64 (yv : Int), .int .i64 (yf : Int), .int .i64 (yt : Int)] 37)).heap.size (((w2.alloc (.cells #[.string cp, .int .i64 cu, .int .i64 ca, .int .i64 cd] 39)).alloc (.cells #[.int .i64 0, .slice none 0 0] 55)).alloc (.cells #[.int .i64 (yv : Int), .int .i64 (yf : Int), .int .i64 (yt : Int)] 37)) w6 → w6.cell? ⟨w2.heap.size, 0, none⟩ = some (.string cp)) := Lib.hid (fun w6 h6 => cell_blk (blk h6 (by simp <;> omega) (blk (one_below _ _) (by simp <;> omega) (blk (one_below _ _) (by simp) HC2.out))) 0)
                 have HQS : Hid (∀ w6, Below (((w2.alloc (.cells #[.string cp, .int .i64 cu, .int .i64 ca, .int .i64 cd] 39)).alloc (.cells #[.int .i64 0, .slice none 0 0] 55)).alloc (.cells #[.int .i64 (yv : Int), .int .i64 (yf : Int), .int .i64 (yt : Int)] 37)).heap.size (((w2.alloc (.cells #[.string cp, .int .i64 cu, .int .i64 ca, .int .i64 cd] 39)).alloc (.cells #[.int .i64 0, .slice none 0 0] 55)).alloc (.cells #[.int .i64 (yv : Int), .int .i64 (yf : Int), .int .i64 (yt : Int)] 37)) w6 → w6.cell? ⟨b0, 0, none⟩ = some vv ∧ w6.cell? ⟨b0, 1, none⟩ = some (.string fr) ∧ w6.cell? ⟨b0, 2, none⟩ = some (.int .i64 ch)) := Lib.hid (fun w6 h6 => by
                   obtain ⟨z0, z1, z2, -⟩ := HFX.out w6 (HBS.out.trans (h6.mono HBS.out.size))
                   exact ⟨z0, z1, z2⟩)
                 have HQB : Hid (∀ w6, Below (((w2.alloc (.cells #[.string cp, .int .i64 cu, .int .i64 ca, .int .i64 cd] 39)).alloc (.cells #[.int .i64 0, .slice none 0 0] 55)).alloc (.cells #[.int .i64 (yv : Int), .int .i64 (yf : Int), .int .i64 (yt : Int)] 37)).heap.size (((w2.alloc (.cells #[.string cp, .int .i64 cu, .int .i64 ca, .int .i64 cd] 39)).alloc (.cells #[.int .i64 0, .slice none 0 0] 55)).alloc (.cells #[.int .i64 (yv : Int), .int .i64 (yf : Int), .int .i64 (yt : Int)] 37)) w6 → w6.cell? ⟨w2.heap.size + 1 + 1, 0, none⟩ = some (.int .i64 (yv : Int)) ∧ w6.cell? ⟨w2.heap.size + 1 + 1, 1, none⟩ = some (.int .i64 (yf : Int)) ∧ w6.cell? ⟨w2.heap.size + 1 + 1, 2, none⟩ = some (.int .i64 (yt : Int))) := Lib.hid (fun w6 h6 => by
                   have h7 := heap_alloc_new ((w2.alloc (.cells #[.string cp, .int .i64 cu, .int .i64 ca, .int .i64 cd] 39)).alloc (.cells #[.int .i64 0, .slice none 0 0] 55)) (.cells #[.int .i64 (yv : Int), .int .i64 (yf : Int), .int .i64 (yt : Int)] 37)
                   rw [size_al, size_al] at h7
                   have h8 := blk h6 (lt_blk h7) h7
                   exact ⟨cell_blk h8 0, cell_blk h8 1, cell_blk h8 2⟩)
                 have HQE : Hid (∀ w6, Below (((w2.alloc (.cells #[.string cp, .int .i64 cu, .int .i64 ca, .int .i64 cd] 39)).alloc (.cells #[.int .i64 0, .slice none 0 0] 55)).alloc (.cells #[.int .i64 (yv : Int), .int .i64 (yf : Int), .int .i64 (yt : Int)] 37)).heap.size (((w2.alloc (.cells #[.string cp, .int .i64 cu, .int .i64 ca, .int .i64 cd] 39)).alloc (.cells #[.int .i64 0, .slice none 0 0] 55)).alloc (.cells #[.int .i64 (yv : Int), .int .i64 (yf : Int), .int .i64 (yt : Int)] 37)) w6 → w6.cell? ⟨w2.heap.size, 2, none⟩ = some (.int .i64 ca)) := Lib.hid (fun w6 h6 => cell_blk (blk h6 (by simp <;> omega) (blk (one_below _ _) (by simp <;> omega) (blk (one_below _ _) (by simp) HC2.out))) 2)
                 have HA2 : Hid (∀ w6, Below (((w2.alloc (.cells #[.string cp, .int .i64 cu, .int .i64 ca, .int .i64 cd] 39)).alloc (.cells #[.int .i64 0, .slice none 0 0] 55)).alloc (.cells #[.int .i64 (yv : Int), .int .i64 (yf : Int), .int .i64 (yt : Int)] 37)).heap.size (((w2.alloc (.cells #[.string cp, .int .i64 cu, .int .i64 ca, .int .i64 cd] 39)).alloc (.cells #[.int .i64 0, .slice none 0 0] 55)).alloc (.cells #[.int .i64 (yv : Int), .int .i64 (yf : Int), .int .i64 (yt : Int)] 37)) w6 → Calls Tryd.prog 31 #[.agg #[vv, .string fr, .int .i64 ch], .agg #[.int .i64 (yv : Int), .int .i64 (yf : Int), .int .i64 (yt : Int)]] w6 (Ret w6 (.agg #[.string gp, .int .i64 gu, .int .i64 ga, .int .i64 gd]))) := Lib.hid (fun w6 h6 => arrive_any V vv fr ch ⟨yv, yf, yt⟩ ⟨gp, gu, ga, gd⟩ w6 (HVS.out w6 (HBS.out.trans (h6.mono HBS.out.size))) HGA.out)
                 clear hb2)
              | ((with_reducible refine Mp.wplIn_miss (Any.isWide_round l) (b := bm) (l := esR) (key := cp) ?_ ?_ ?_ Tryd.underlying56 Tryd.underlying9 (zeroStop _) HM2.out HRG.out ?_); rfl; rfl; rfl)
              | ((with_reducible refine Mp.wplIn_got (Any.isWide_round l) (b := bf) (l := es) (key := cp) ?_ ?_ ?_ Tryd.underlying57 Tryd.underlying9 (zeroLeg _) (HZ2.out _) HFG.out ?_); rfl; rfl; rfl)
              | fail)
            refine Any.region_litIn (Any.isWide_round l) (fun
              | 0 => Any.val (.bool true)
              | 1 => Any.val (.bool true)
              | 2 => Any.val (.agg #[vv, .string fr, .int .i64 ch])
              | 3 => Any.val (.agg #[.int .i64 (yv : Int), .int .i64 (yf : Int), .int .i64 (yt : Int)])
              | 4 => Any.val (.agg #[.string gp, .int .i64 gu, .int .i64 ga, .int .i64 gd])
              | 5 => Any.val (.int .i64 ga)
              | 6 => Any.val (.pointer (some ⟨w2.heap.size, 2, none⟩))
              | 7 => Any.val (.int .i64 ca)
              | 8 => Any.val (.bool (decide (ga ≤ ca)))
              | 9 => Any.val (.bool (decide (ga ≤ ca)))
              | _ => Any.idle) (by kernel_rfl) (by kernel_rfl) (by kernel_rfl) (by kernel_rfl) ?_ ?_ ?_
            · intro i _
              match i with
              | 0 => exact Any.lasts_val _
              | 1 => exact Any.lasts_val _
              | 2 => exact Any.lasts_val _
              | 3 => exact Any.lasts_val _
              | 4 => exact Any.lasts_val _
              | 5 => exact Any.lasts_val _
              | 6 => exact Any.lasts_val _
              | 7 => exact Any.lasts_val _
              | 8 => exact Any.lasts_val _
              | 9 => exact Any.lasts_val _
              | n + 10 => exact Any.lasts_idle
            · refine ⟨?_, ?_, ?_, ?_, ?_, ?_, ?_, ?_, ?_, ?_, trivial⟩
              · refine Any.owes_plain rfl fun ρ wo hs' hb hc' => ?_
                have h11 : ρ (.tmp 11) = .bool true := hs'.old' 11 (by kernel_rfl)
                exact Any.ok_move (Any.post_val hb rfl h11)
              · refine Any.owes_plain rfl fun ρ wo hs' hb hc' => ?_
                have h47 : ρ (.tmp 47) = .bool true := hs'.new' 47 0 (by kernel_rfl)
                exact Any.ok_move (Any.post_val hb rfl h47)
              · refine Any.owes_on rfl rfl (by kernel_rfl) rfl fun ρ wo hs' hb hc' => ?_
                have h2 : ρ (.tmp 2) = .pointer (some ⟨b0, 0, none⟩) := hs'.old' 2 (by kernel_rfl)
                obtain ⟨c0, c1, c2⟩ := HQS.out wo (below_undrew hb)
                go_simp
                exact Any.post_val hb rfl rfl
              · refine Any.owes_on rfl rfl (by kernel_rfl) rfl fun ρ wo hs' hb hc' => ?_
                have h10 : ρ (.tmp 10) = .pointer (some ⟨w2.heap.size + 1 + 1, 0, none⟩) := hs'.old' 10 (by kernel_rfl)
                obtain ⟨c0, c1, c2⟩ := HQB.out wo (below_undrew hb)
                go_simp
                exact Any.post_val hb rfl rfl
              · refine Any.owes_on rfl rfl (by kernel_rfl) rfl fun ρ wo hs' hb hc' => ?_
                have h49 : ρ (.tmp 49) = .agg #[vv, .string fr, .int .i64 ch] := hs'.new' 49 2 (by kernel_rfl)
                have h50 : ρ (.tmp 50) = .agg #[.int .i64 (yv : Int), .int .i64 (yf : Int), .int .i64 (yt : Int)] := hs'.new' 50 3 (by kernel_rfl)
                have hf := hs'.func 31
                go_simp
                exact (HA2.out wo (below_undrew hb)).mono fun e w' ⟨he, hb'⟩ => ⟨_, he, Any.post_vals hb rfl rfl hb'⟩
              · refine Any.owes_on rfl rfl (by kernel_rfl) rfl fun ρ wo hs' hb hc' => ?_
                have h51 : ρ (.tmp 51) = .agg #[.string gp, .int .i64 gu, .int .i64 ga, .int .i64 gd] := hs'.new' 51 4 (by kernel_rfl)
                go_simp
                exact Any.post_val hb rfl rfl
              · refine Any.owes_on rfl rfl (by kernel_rfl) rfl fun ρ wo hs' hb hc' => ?_
                have h7 : ρ (.tmp 7) = .pointer (some ⟨w2.heap.size, 0, none⟩) := hs'.old' 7 (by kernel_rfl)
                go_simp
                exact Any.post_val hb rfl rfl
              · refine Any.owes_on rfl rfl (by kernel_rfl) rfl fun ρ wo hs' hb hc' => ?_
                have h53 : ρ (.tmp 53) = .pointer (some ⟨w2.heap.size, 2, none⟩) := hs'.new' 53 6 (by kernel_rfl)
                have c0 := HQE.out wo (below_undrew hb)
                go_simp
                exact Any.post_val hb rfl rfl
              · refine Any.owes_on rfl rfl (by kernel_rfl) rfl fun ρ wo hs' hb hc' => ?_
                have h52 : ρ (.tmp 52) = .int .i64 ga := hs'.new' 52 5 (by kernel_rfl)
                have h54 : ρ (.tmp 54) = .int .i64 ca := hs'.new' 54 7 (by kernel_rfl)
                go_simp
                exact Any.post_val hb rfl rfl
              · refine Any.owes_plain rfl fun ρ wo hs' hb hc' => ?_
                have h48 : ρ (.tmp 48) = .bool true := hs'.new' 48 1 (by kernel_rfl)
                have h55 : ρ (.tmp 55) = .bool (decide (ga ≤ ca)) := hs'.new' 55 8 (by kernel_rfl)
                go_simp
                exact Any.post_val hb rfl rfl
            · intro vals w6 hb hk ha
              have h9 : vals 9 = .bool (decide (ga ≤ ca)) := hk 9 (by kernel_rfl)
              have HB6 := Lib.hid hb
              clear hk ha hb
              simp only [Any.putAll]
              go_frame
              simp only [Nat.zero_add, Nat.reduceAdd]
              rw [h9, tq]
              gi_wp2_with fail
              exact anI_below HI.out (HBS.out.trans (HB6.out.mono HBS.out.size)) HST.out
          · have HST := Lib.hid (HSTU.out (by rw [HLF.out, decide_eq_false hq]))
            have tq : decide (ga ≤ ca) = false := decide_eq_false hq
            clear hq
            gi_wp2_with (first
              | ((with_reducible refine ⟨Any.isWide.fn _, ((Any.isWide_round l).calls HA1.out).mono ?_⟩); rintro e w2 ⟨rfl, hb2⟩
                 have HB2 := Lib.hid hb2
                 have HF2 := Lib.hid (HFX.out w2 hb2)
                 obtain ⟨y0, y1, y2, y3, y4, y5, y6, y7, l0, l1, l3, lx⟩ := HF2.out
                 have HC2 := Lib.hid (heap_alloc_new w2 (.cells #[.string cp, .int .i64 cu, .int .i64 ca, .int .i64 cd] 39))
                 have HM2 : Hid (Mp.MapAt (w2.alloc (.cells #[.string cp, .int .i64 cu, .int .i64 ca, .int .i64 cd] 39)) bm esR) := Lib.hid (HMR.out _ (hb2.alloc hb2.size _))
                 have HZ2 : Hid (∀ o1, Mp.MapAt ((w2.alloc (.cells #[.string cp, .int .i64 cu, .int .i64 ca, .int .i64 cd] 39)).alloc o1) bf es) := Lib.hid (fun o1 => HMF.out _ ((hb2.alloc hb2.size _).alloc (by rw [size_al]; have := hb2.size; omega) _))
                 have HBS : Hid (Below W.heap.size W (((w2.alloc (.cells #[.string cp, .int .i64 cu, .int .i64 ca, .int .i64 cd] 39)).alloc (.cells #[.int .i64 0, .slice none 0 0] 55)).alloc (.cells #[.int .i64 (yv : Int), .int .i64 (yf : Int), .int .i64 (yt : Int)] 37))) := Lib.hid (((HB2.out.alloc HB2.out.size _).alloc (by rw [size_al]; have := HB2.out.size; omega) _).alloc (by rw [size_al, size_al]; have := HB2.out.size; omega) _)
                 have HQP : Hid (∀ w6, Below (((w2.alloc (.cells #[.string cp, .int .i64 cu, .int .i64 ca, .int .i64 cd] 39)).alloc (.cells #[.int .i64 0, .slice none 0 0] 55)).alloc (.cells #[.int .i64 (yv : Int), .int .i64 (yf : Int), .int .i64 (yt : Int)] 37)).heap.size (((w2.alloc (.cells #[.string cp, .int .i64 cu, .int .i64 ca, .int .i64 cd] 39)).alloc (.cells #[.int .i64 0, .slice none 0 0] 55)).alloc (.cells #[.int .i64 (yv : Int), .int .i64 (yf : Int), .int .i64 (yt : Int)] 37)) w6 → w6.cell? ⟨w2.heap.size, 0, none⟩ = some (.string cp)) := Lib.hid (fun w6 h6 => cell_blk (blk h6 (by simp <;> omega) (blk (one_below _ _) (by simp <;> omega) (blk (one_below _ _) (by simp) HC2.out))) 0)
                 have HQS : Hid (∀ w6, Below (((w2.alloc (.cells #[.string cp, .int .i64 cu, .int .i64 ca, .int .i64 cd] 39)).alloc (.cells #[.int .i64 0, .slice none 0 0] 55)).alloc (.cells #[.int .i64 (yv : Int), .int .i64 (yf : Int), .int .i64 (yt : Int)] 37)).heap.size (((w2.alloc (.cells #[.string cp, .int .i64 cu, .int .i64 ca, .int .i64 cd] 39)).alloc (.cells #[.int .i64 0, .slice none 0 0] 55)).alloc (.cells #[.int .i64 (yv : Int), .int .i64 (yf : Int), .int .i64 (yt : Int)] 37)) w6 → w6.cell? ⟨b0, 0, none⟩ = some vv ∧ w6.cell? ⟨b0, 1, none⟩ = some (.string fr) ∧ w6.cell? ⟨b0, 2, none⟩ = some (.int .i64 ch)) := Lib.hid (fun w6 h6 => by
                   obtain ⟨z0, z1, z2, -⟩ := HFX.out w6 (HBS.out.trans (h6.mono HBS.out.size))
                   exact ⟨z0, z1, z2⟩)
                 have HQB : Hid (∀ w6, Below (((w2.alloc (.cells #[.string cp, .int .i64 cu, .int .i64 ca, .int .i64 cd] 39)).alloc (.cells #[.int .i64 0, .slice none 0 0] 55)).alloc (.cells #[.int .i64 (yv : Int), .int .i64 (yf : Int), .int .i64 (yt : Int)] 37)).heap.size (((w2.alloc (.cells #[.string cp, .int .i64 cu, .int .i64 ca, .int .i64 cd] 39)).alloc (.cells #[.int .i64 0, .slice none 0 0] 55)).alloc (.cells #[.int .i64 (yv : Int), .int .i64 (yf : Int), .int .i64 (yt : Int)] 37)) w6 → w6.cell? ⟨w2.heap.size + 1 + 1, 0, none⟩ = some (.int .i64 (yv : Int)) ∧ w6.cell? ⟨w2.heap.size + 1 + 1, 1, none⟩ = some (.int .i64 (yf : Int)) ∧ w6.cell? ⟨w2.heap.size + 1 + 1, 2, none⟩ = some (.int .i64 (yt : Int))) := Lib.hid (fun w6 h6 => by
                   have h7 := heap_alloc_new ((w2.alloc (.cells #[.string cp, .int .i64 cu, .int .i64 ca, .int .i64 cd] 39)).alloc (.cells #[.int .i64 0, .slice none 0 0] 55)) (.cells #[.int .i64 (yv : Int), .int .i64 (yf : Int), .int .i64 (yt : Int)] 37)
                   rw [size_al, size_al] at h7
                   have h8 := blk h6 (lt_blk h7) h7
                   exact ⟨cell_blk h8 0, cell_blk h8 1, cell_blk h8 2⟩)
                 have HQE : Hid (∀ w6, Below (((w2.alloc (.cells #[.string cp, .int .i64 cu, .int .i64 ca, .int .i64 cd] 39)).alloc (.cells #[.int .i64 0, .slice none 0 0] 55)).alloc (.cells #[.int .i64 (yv : Int), .int .i64 (yf : Int), .int .i64 (yt : Int)] 37)).heap.size (((w2.alloc (.cells #[.string cp, .int .i64 cu, .int .i64 ca, .int .i64 cd] 39)).alloc (.cells #[.int .i64 0, .slice none 0 0] 55)).alloc (.cells #[.int .i64 (yv : Int), .int .i64 (yf : Int), .int .i64 (yt : Int)] 37)) w6 → w6.cell? ⟨w2.heap.size, 2, none⟩ = some (.int .i64 ca)) := Lib.hid (fun w6 h6 => cell_blk (blk h6 (by simp <;> omega) (blk (one_below _ _) (by simp <;> omega) (blk (one_below _ _) (by simp) HC2.out))) 2)
                 have HA2 : Hid (∀ w6, Below (((w2.alloc (.cells #[.string cp, .int .i64 cu, .int .i64 ca, .int .i64 cd] 39)).alloc (.cells #[.int .i64 0, .slice none 0 0] 55)).alloc (.cells #[.int .i64 (yv : Int), .int .i64 (yf : Int), .int .i64 (yt : Int)] 37)).heap.size (((w2.alloc (.cells #[.string cp, .int .i64 cu, .int .i64 ca, .int .i64 cd] 39)).alloc (.cells #[.int .i64 0, .slice none 0 0] 55)).alloc (.cells #[.int .i64 (yv : Int), .int .i64 (yf : Int), .int .i64 (yt : Int)] 37)) w6 → Calls Tryd.prog 31 #[.agg #[vv, .string fr, .int .i64 ch], .agg #[.int .i64 (yv : Int), .int .i64 (yf : Int), .int .i64 (yt : Int)]] w6 (Ret w6 (.agg #[.string gp, .int .i64 gu, .int .i64 ga, .int .i64 gd]))) := Lib.hid (fun w6 h6 => arrive_any V vv fr ch ⟨yv, yf, yt⟩ ⟨gp, gu, ga, gd⟩ w6 (HVS.out w6 (HBS.out.trans (h6.mono HBS.out.size))) HGA.out)
                 clear hb2)
              | ((with_reducible refine Mp.wplIn_miss (Any.isWide_round l) (b := bm) (l := esR) (key := cp) ?_ ?_ ?_ Tryd.underlying56 Tryd.underlying9 (zeroStop _) HM2.out HRG.out ?_); rfl; rfl; rfl)
              | ((with_reducible refine Mp.wplIn_got (Any.isWide_round l) (b := bf) (l := es) (key := cp) ?_ ?_ ?_ Tryd.underlying57 Tryd.underlying9 (zeroLeg _) (HZ2.out _) HFG.out ?_); rfl; rfl; rfl)
              | fail)
            refine Any.region_litIn (Any.isWide_round l) (fun
              | 0 => Any.val (.bool true)
              | 1 => Any.val (.bool true)
              | 2 => Any.val (.agg #[vv, .string fr, .int .i64 ch])
              | 3 => Any.val (.agg #[.int .i64 (yv : Int), .int .i64 (yf : Int), .int .i64 (yt : Int)])
              | 4 => Any.val (.agg #[.string gp, .int .i64 gu, .int .i64 ga, .int .i64 gd])
              | 5 => Any.val (.int .i64 ga)
              | 6 => Any.val (.pointer (some ⟨w2.heap.size, 2, none⟩))
              | 7 => Any.val (.int .i64 ca)
              | 8 => Any.val (.bool (decide (ga ≤ ca)))
              | 9 => Any.val (.bool (decide (ga ≤ ca)))
              | _ => Any.idle) (by kernel_rfl) (by kernel_rfl) (by kernel_rfl) (by kernel_rfl) ?_ ?_ ?_
            · intro i _
              match i with
              | 0 => exact Any.lasts_val _
              | 1 => exact Any.lasts_val _
              | 2 => exact Any.lasts_val _
              | 3 => exact Any.lasts_val _
              | 4 => exact Any.lasts_val _
              | 5 => exact Any.lasts_val _
              | 6 => exact Any.lasts_val _
              | 7 => exact Any.lasts_val _
              | 8 => exact Any.lasts_val _
              | 9 => exact Any.lasts_val _
              | n + 10 => exact Any.lasts_idle
            · refine ⟨?_, ?_, ?_, ?_, ?_, ?_, ?_, ?_, ?_, ?_, trivial⟩
              · refine Any.owes_plain rfl fun ρ wo hs' hb hc' => ?_
                have h11 : ρ (.tmp 11) = .bool true := hs'.old' 11 (by kernel_rfl)
                exact Any.ok_move (Any.post_val hb rfl h11)
              · refine Any.owes_plain rfl fun ρ wo hs' hb hc' => ?_
                have h47 : ρ (.tmp 47) = .bool true := hs'.new' 47 0 (by kernel_rfl)
                exact Any.ok_move (Any.post_val hb rfl h47)
              · refine Any.owes_on rfl rfl (by kernel_rfl) rfl fun ρ wo hs' hb hc' => ?_
                have h2 : ρ (.tmp 2) = .pointer (some ⟨b0, 0, none⟩) := hs'.old' 2 (by kernel_rfl)
                obtain ⟨c0, c1, c2⟩ := HQS.out wo (below_undrew hb)
                go_simp
                exact Any.post_val hb rfl rfl
              · refine Any.owes_on rfl rfl (by kernel_rfl) rfl fun ρ wo hs' hb hc' => ?_
                have h10 : ρ (.tmp 10) = .pointer (some ⟨w2.heap.size + 1 + 1, 0, none⟩) := hs'.old' 10 (by kernel_rfl)
                obtain ⟨c0, c1, c2⟩ := HQB.out wo (below_undrew hb)
                go_simp
                exact Any.post_val hb rfl rfl
              · refine Any.owes_on rfl rfl (by kernel_rfl) rfl fun ρ wo hs' hb hc' => ?_
                have h49 : ρ (.tmp 49) = .agg #[vv, .string fr, .int .i64 ch] := hs'.new' 49 2 (by kernel_rfl)
                have h50 : ρ (.tmp 50) = .agg #[.int .i64 (yv : Int), .int .i64 (yf : Int), .int .i64 (yt : Int)] := hs'.new' 50 3 (by kernel_rfl)
                have hf := hs'.func 31
                go_simp
                exact (HA2.out wo (below_undrew hb)).mono fun e w' ⟨he, hb'⟩ => ⟨_, he, Any.post_vals hb rfl rfl hb'⟩
              · refine Any.owes_on rfl rfl (by kernel_rfl) rfl fun ρ wo hs' hb hc' => ?_
                have h51 : ρ (.tmp 51) = .agg #[.string gp, .int .i64 gu, .int .i64 ga, .int .i64 gd] := hs'.new' 51 4 (by kernel_rfl)
                go_simp
                exact Any.post_val hb rfl rfl
              · refine Any.owes_on rfl rfl (by kernel_rfl) rfl fun ρ wo hs' hb hc' => ?_
                have h7 : ρ (.tmp 7) = .pointer (some ⟨w2.heap.size, 0, none⟩) := hs'.old' 7 (by kernel_rfl)
                go_simp
                exact Any.post_val hb rfl rfl
              · refine Any.owes_on rfl rfl (by kernel_rfl) rfl fun ρ wo hs' hb hc' => ?_
                have h53 : ρ (.tmp 53) = .pointer (some ⟨w2.heap.size, 2, none⟩) := hs'.new' 53 6 (by kernel_rfl)
                have c0 := HQE.out wo (below_undrew hb)
                go_simp
                exact Any.post_val hb rfl rfl
              · refine Any.owes_on rfl rfl (by kernel_rfl) rfl fun ρ wo hs' hb hc' => ?_
                have h52 : ρ (.tmp 52) = .int .i64 ga := hs'.new' 52 5 (by kernel_rfl)
                have h54 : ρ (.tmp 54) = .int .i64 ca := hs'.new' 54 7 (by kernel_rfl)
                go_simp
                exact Any.post_val hb rfl rfl
              · refine Any.owes_plain rfl fun ρ wo hs' hb hc' => ?_
                have h48 : ρ (.tmp 48) = .bool true := hs'.new' 48 1 (by kernel_rfl)
                have h55 : ρ (.tmp 55) = .bool (decide (ga ≤ ca)) := hs'.new' 55 8 (by kernel_rfl)
                go_simp
                exact Any.post_val hb rfl rfl
            · intro vals w6 hb hk ha
              have h9 : vals 9 = .bool (decide (ga ≤ ca)) := hk 9 (by kernel_rfl)
              have HB6 := Lib.hid hb
              clear hk ha hb
              simp only [Any.putAll]
              go_frame
              simp only [Nat.zero_add, Nat.reduceAdd]
              rw [h9, tq]
              have HF6 := Lib.hid (HFX.out w6 (HBS.out.trans (HB6.out.mono HBS.out.size)))
              obtain ⟨y0, y1, y2, y3, y4, y5, y6, y7, l0, l1, l3, lx⟩ := HF6.out
              have q0 := HQP.out w6 HB6.out
              have HM6 := Lib.hid (HMF.out w6 (HBS.out.trans (HB6.out.mono HBS.out.size)))
              gi_wp2_with (first
                | ((with_reducible refine Mp.wplIn_update (Any.isWide_round l) (b := bf) (l := es) (key := cp) (v := .agg #[.int .i64 (xv : Int), .int .i64 (xf : Int), .int .i64 (xt : Int)]) ?_ ?_ ?_ ?_ Tryd.underlying57 Tryd.underlying9 HM6.out ?_); rfl; rfl; rfl; rfl; intro w7 hm7 hg7 _; have HM7 := Lib.hid hm7; have HG7 := Lib.hid hg7; clear hm7 hg7; go_frame)
                | fail)
              exact anI_put (x := ⟨⟨xv, xf, xt⟩, hx⟩) HI.out (HBS.out.trans (HB6.out.mono HBS.out.size)) HBF.out HFE.out HG7.out HM7.out HST.out
      | some q =>
        obtain ⟨d, ls⟩ := q
        rw [hrp] at HRP
        obtain ⟨sad, sn, sc, hg⟩ := HRP.out
        have HRG := Lib.hid hg
        clear hg HRP
        by_cases hd : d ≤ ca
        · have td : decide (d ≤ ca) = true := decide_eq_true hd
          have HST := Lib.hid (HSTR.out (by unfold lateR; rw [hrp]; exact td))
          clear hd hrp
          gi_wp2_with (first
            | ((with_reducible refine ⟨Any.isWide.fn _, ((Any.isWide_round l).calls HA1.out).mono ?_⟩); rintro e w2 ⟨rfl, hb2⟩
               have HB2 := Lib.hid hb2
               have HF2 := Lib.hid (HFX.out w2 hb2)
               obtain ⟨y0, y1, y2, y3, y4, y5, y6, y7, l0, l1, l3, lx⟩ := HF2.out
               have HC2 := Lib.hid (heap_alloc_new w2 (.cells #[.string cp, .int .i64 cu, .int .i64 ca, .int .i64 cd] 39))
               have HM2 : Hid (Mp.MapAt (w2.alloc (.cells #[.string cp, .int .i64 cu, .int .i64 ca, .int .i64 cd] 39)) bm esR) := Lib.hid (HMR.out _ (hb2.alloc hb2.size _))
               have HZ2 : Hid (∀ o1, Mp.MapAt ((w2.alloc (.cells #[.string cp, .int .i64 cu, .int .i64 ca, .int .i64 cd] 39)).alloc o1) bf es) := Lib.hid (fun o1 => HMF.out _ ((hb2.alloc hb2.size _).alloc (by rw [size_al]; have := hb2.size; omega) _))
               clear hb2)
            | ((with_reducible refine Mp.wplIn_got (Any.isWide_round l) (b := bm) (l := esR) (key := cp) ?_ ?_ ?_ Tryd.underlying56 Tryd.underlying9 (zeroStop _) HM2.out HRG.out ?_); rfl; rfl; rfl)
            | fail)
          exact anI_below HI.out ((HB2.out.alloc HB2.out.size _).alloc (by rw [size_al]; have := HB2.out.size; omega) _) HST.out
        · have td : decide (d ≤ ca) = false := decide_eq_false hd
          have HSTU := Lib.hid (fun h => (HSTG.out (by unfold lateR; rw [hrp]; exact td)).1 h)
          have HSTS := Lib.hid (fun h => (HSTG.out (by unfold lateR; rw [hrp]; exact td)).2 h)
          clear hd hrp
          cases hF : freshF V R fr (pre.map Subtype.val) cp with
          | none =>
            have HFG : Hid (Mp.mget es cp = none) := Lib.hid (by rw [HFE.out cp, hF]; rfl)
            have HST := Lib.hid (HSTU.out (by unfold lateF; rw [hF]; rfl))
            gi_wp2_with (first
              | ((with_reducible refine ⟨Any.isWide.fn _, ((Any.isWide_round l).calls HA1.out).mono ?_⟩); rintro e w2 ⟨rfl, hb2⟩
                 have HB2 := Lib.hid hb2
                 have HF2 := Lib.hid (HFX.out w2 hb2)
                 obtain ⟨y0, y1, y2, y3, y4, y5, y6, y7, l0, l1, l3, lx⟩ := HF2.out
                 have HC2 := Lib.hid (heap_alloc_new w2 (.cells #[.string cp, .int .i64 cu, .int .i64 ca, .int .i64 cd] 39))
                 have HM2 : Hid (Mp.MapAt (w2.alloc (.cells #[.string cp, .int .i64 cu, .int .i64 ca, .int .i64 cd] 39)) bm esR) := Lib.hid (HMR.out _ (hb2.alloc hb2.size _))
                 have HZ2 : Hid (∀ o1, Mp.MapAt ((w2.alloc (.cells #[.string cp, .int .i64 cu, .int .i64 ca, .int .i64 cd] 39)).alloc o1) bf es) := Lib.hid (fun o1 => HMF.out _ ((hb2.alloc hb2.size _).alloc (by rw [size_al]; have := hb2.size; omega) _))
                 have HBS : Hid (Below W.heap.size W (((w2.alloc (.cells #[.string cp, .int .i64 cu, .int .i64 ca, .int .i64 cd] 39)).alloc (.cells #[.int .i64 d, .slice sad sn sc] 55)).alloc (.cells #[.int .i64 0, .int .i64 0, .int .i64 0] 37))) := Lib.hid (((HB2.out.alloc HB2.out.size _).alloc (by rw [size_al]; have := HB2.out.size; omega) _).alloc (by rw [size_al, size_al]; have := HB2.out.size; omega) _)
                 have HQP : Hid (∀ w6, Below (((w2.alloc (.cells #[.string cp, .int .i64 cu, .int .i64 ca, .int .i64 cd] 39)).alloc (.cells #[.int .i64 d, .slice sad sn sc] 55)).alloc (.cells #[.int .i64 0, .int .i64 0, .int .i64 0] 37)).heap.size (((w2.alloc (.cells #[.string cp, .int .i64 cu, .int .i64 ca, .int .i64 cd] 39)).alloc (.cells #[.int .i64 d, .slice sad sn sc] 55)).alloc (.cells #[.int .i64 0, .int .i64 0, .int .i64 0] 37)) w6 → w6.cell? ⟨w2.heap.size, 0, none⟩ = some (.string cp)) := Lib.hid (fun w6 h6 => cell_blk (blk h6 (by simp <;> omega) (blk (one_below _ _) (by simp <;> omega) (blk (one_below _ _) (by simp) HC2.out))) 0)
                 clear hb2)
              | ((with_reducible refine Mp.wplIn_got (Any.isWide_round l) (b := bm) (l := esR) (key := cp) ?_ ?_ ?_ Tryd.underlying56 Tryd.underlying9 (zeroStop _) HM2.out HRG.out ?_); rfl; rfl; rfl)
              | ((with_reducible refine Mp.wplIn_miss (Any.isWide_round l) (b := bf) (l := es) (key := cp) ?_ ?_ ?_ Tryd.underlying57 Tryd.underlying9 (zeroLeg _) (HZ2.out _) HFG.out ?_); rfl; rfl; rfl)
              | fail)
            refine Any.region_litIn (Any.isWide_round l) (fun
              | 0 => Any.val (.bool false)
              | 1 => Any.val (.bool false)
              | 2 => Any.idle
              | 3 => Any.idle
              | 4 => Any.idle
              | 5 => Any.idle
              | 6 => Any.idle
              | 7 => Any.idle
              | 8 => Any.idle
              | 9 => Any.val (.bool false)
              | _ => Any.idle) (by kernel_rfl) (by kernel_rfl) (by kernel_rfl) (by kernel_rfl) ?_ ?_ ?_
            · intro i _
              match i with
              | 0 => exact Any.lasts_val _
              | 1 => exact Any.lasts_val _
              | 2 => exact Any.lasts_idle
              | 3 => exact Any.lasts_idle
              | 4 => exact Any.lasts_idle
              | 5 => exact Any.lasts_idle
              | 6 => exact Any.lasts_idle
              | 7 => exact Any.lasts_idle
              | 8 => exact Any.lasts_idle
              | 9 => exact Any.lasts_val _
              | n + 10 => exact Any.lasts_idle
            · refine ⟨?_, ?_, ?_, ?_, ?_, ?_, ?_, ?_, ?_, ?_, trivial⟩
              · refine Any.owes_plain rfl fun ρ wo hs' hb hc' => ?_
                have h11 : ρ (.tmp 11) = .bool false := hs'.old' 11 (by kernel_rfl)
                exact Any.ok_move (Any.post_val hb rfl h11)
              · refine Any.owes_plain rfl fun ρ wo hs' hb hc' => ?_
                have h47 : ρ (.tmp 47) = .bool false := hs'.new' 47 0 (by kernel_rfl)
                exact Any.ok_move (Any.post_val hb rfl h47)
              · exact Any.owes_off rfl rfl (by kernel_rfl) rfl (by decide) rfl
              · exact Any.owes_off rfl rfl (by kernel_rfl) rfl (by decide) rfl
              · exact Any.owes_off rfl rfl (by kernel_rfl) rfl (by decide) rfl
              · exact Any.owes_off rfl rfl (by kernel_rfl) rfl (by decide) rfl
              · exact Any.owes_off rfl rfl (by kernel_rfl) rfl (by decide) rfl
              · exact Any.owes_off rfl rfl (by kernel_rfl) rfl (by decide) rfl
              · exact Any.owes_off rfl rfl (by kernel_rfl) rfl (by decide) rfl
              · refine Any.owes_plain rfl fun ρ wo hs' hb hc' => ?_
                have h48 : ρ (.tmp 48) = .bool false := hs'.new' 48 1 (by kernel_rfl)
                go_simp
                exact Any.post_val hb rfl rfl
            · intro vals w6 hb hk ha
              have h9 : vals 9 = .bool false := hk 9 (by kernel_rfl)
              have HB6 := Lib.hid hb
              clear hk ha hb
              simp only [Any.putAll]
              go_frame
              simp only [Nat.zero_add, Nat.reduceAdd]
              rw [h9]
              have HF6 := Lib.hid (HFX.out w6 (HBS.out.trans (HB6.out.mono HBS.out.size)))
              obtain ⟨y0, y1, y2, y3, y4, y5, y6, y7, l0, l1, l3, lx⟩ := HF6.out
              have q0 := HQP.out w6 HB6.out
              have HM6 := Lib.hid (HMF.out w6 (HBS.out.trans (HB6.out.mono HBS.out.size)))
              gi_wp2_with (first
                | ((with_reducible refine Mp.wplIn_update (Any.isWide_round l) (b := bf) (l := es) (key := cp) (v := .agg #[.int .i64 (xv : Int), .int .i64 (xf : Int), .int .i64 (xt : Int)]) ?_ ?_ ?_ ?_ Tryd.underlying57 Tryd.underlying9 HM6.out ?_); rfl; rfl; rfl; rfl; intro w7 hm7 hg7 _; have HM7 := Lib.hid hm7; have HG7 := Lib.hid hg7; clear hm7 hg7; go_frame)
                | fail)
              exact anI_put (x := ⟨⟨xv, xf, xt⟩, hx⟩) HI.out (HBS.out.trans (HB6.out.mono HBS.out.size)) HBF.out HFE.out HG7.out HM7.out HST.out
          | some y =>
            have HFG0 : Hid (Mp.mget es cp = some (.agg y.cells)) := Lib.hid (by rw [HFE.out cp, hF]; rfl)
            obtain ⟨hy, ⟨g, hgc, hgp⟩, -⟩ := HFO.out cp y hF
            have HGA0 := Lib.hid hgc
            have HLF : Hid (lateF V (freshF V R fr (pre.map Subtype.val)) ⟨cp, cu, ca, cd⟩ = decide (g.arr ≤ ca)) := Lib.hid (by unfold lateF; simp only; rw [hF, Option.bind_some, hgc])
            clear hy hgc hgp hF
            obtain ⟨yv, yf, yt⟩ := y
            obtain ⟨gp, gu, ga, gd⟩ := g
            have HGA := Lib.hid HGA0.out
            have HFG : Hid (Mp.mget es cp = some (.agg #[.int .i64 (yv : Int), .int .i64 (yf : Int), .int .i64 (yt : Int)])) := Lib.hid HFG0.out
            simp only at HLF
            by_cases hq : ga ≤ ca
            · have HST := Lib.hid (HSTS.out (by rw [HLF.out, decide_eq_true hq]))
              have tq : decide (ga ≤ ca) = true := decide_eq_true hq
              clear hq
              gi_wp2_with (first
                | ((with_reducible refine ⟨Any.isWide.fn _, ((Any.isWide_round l).calls HA1.out).mono ?_⟩); rintro e w2 ⟨rfl, hb2⟩
                   have HB2 := Lib.hid hb2
                   have HF2 := Lib.hid (HFX.out w2 hb2)
                   obtain ⟨y0, y1, y2, y3, y4, y5, y6, y7, l0, l1, l3, lx⟩ := HF2.out
                   have HC2 := Lib.hid (heap_alloc_new w2 (.cells #[.string cp, .int .i64 cu, .int .i64 ca, .int .i64 cd] 39))
                   have HM2 : Hid (Mp.MapAt (w2.alloc (.cells #[.string cp, .int .i64 cu, .int .i64 ca, .int .i64 cd] 39)) bm esR) := Lib.hid (HMR.out _ (hb2.alloc hb2.size _))
                   have HZ2 : Hid (∀ o1, Mp.MapAt ((w2.alloc (.cells #[.string cp, .int .i64 cu, .int .i64 ca, .int .i64 cd] 39)).alloc o1) bf es) := Lib.hid (fun o1 => HMF.out _ ((hb2.alloc hb2.size _).alloc (by rw [size_al]; have := hb2.size; omega) _))
                   have HBS : Hid (Below W.heap.size W (((w2.alloc (.cells #[.string cp, .int .i64 cu, .int .i64 ca, .int .i64 cd] 39)).alloc (.cells #[.int .i64 d, .slice sad sn sc] 55)).alloc (.cells #[.int .i64 (yv : Int), .int .i64 (yf : Int), .int .i64 (yt : Int)] 37))) := Lib.hid (((HB2.out.alloc HB2.out.size _).alloc (by rw [size_al]; have := HB2.out.size; omega) _).alloc (by rw [size_al, size_al]; have := HB2.out.size; omega) _)
                   have HQP : Hid (∀ w6, Below (((w2.alloc (.cells #[.string cp, .int .i64 cu, .int .i64 ca, .int .i64 cd] 39)).alloc (.cells #[.int .i64 d, .slice sad sn sc] 55)).alloc (.cells #[.int .i64 (yv : Int), .int .i64 (yf : Int), .int .i64 (yt : Int)] 37)).heap.size (((w2.alloc (.cells #[.string cp, .int .i64 cu, .int .i64 ca, .int .i64 cd] 39)).alloc (.cells #[.int .i64 d, .slice sad sn sc] 55)).alloc (.cells #[.int .i64 (yv : Int), .int .i64 (yf : Int), .int .i64 (yt : Int)] 37)) w6 → w6.cell? ⟨w2.heap.size, 0, none⟩ = some (.string cp)) := Lib.hid (fun w6 h6 => cell_blk (blk h6 (by simp <;> omega) (blk (one_below _ _) (by simp <;> omega) (blk (one_below _ _) (by simp) HC2.out))) 0)
                   have HQS : Hid (∀ w6, Below (((w2.alloc (.cells #[.string cp, .int .i64 cu, .int .i64 ca, .int .i64 cd] 39)).alloc (.cells #[.int .i64 d, .slice sad sn sc] 55)).alloc (.cells #[.int .i64 (yv : Int), .int .i64 (yf : Int), .int .i64 (yt : Int)] 37)).heap.size (((w2.alloc (.cells #[.string cp, .int .i64 cu, .int .i64 ca, .int .i64 cd] 39)).alloc (.cells #[.int .i64 d, .slice sad sn sc] 55)).alloc (.cells #[.int .i64 (yv : Int), .int .i64 (yf : Int), .int .i64 (yt : Int)] 37)) w6 → w6.cell? ⟨b0, 0, none⟩ = some vv ∧ w6.cell? ⟨b0, 1, none⟩ = some (.string fr) ∧ w6.cell? ⟨b0, 2, none⟩ = some (.int .i64 ch)) := Lib.hid (fun w6 h6 => by
                     obtain ⟨z0, z1, z2, -⟩ := HFX.out w6 (HBS.out.trans (h6.mono HBS.out.size))
                     exact ⟨z0, z1, z2⟩)
                   have HQB : Hid (∀ w6, Below (((w2.alloc (.cells #[.string cp, .int .i64 cu, .int .i64 ca, .int .i64 cd] 39)).alloc (.cells #[.int .i64 d, .slice sad sn sc] 55)).alloc (.cells #[.int .i64 (yv : Int), .int .i64 (yf : Int), .int .i64 (yt : Int)] 37)).heap.size (((w2.alloc (.cells #[.string cp, .int .i64 cu, .int .i64 ca, .int .i64 cd] 39)).alloc (.cells #[.int .i64 d, .slice sad sn sc] 55)).alloc (.cells #[.int .i64 (yv : Int), .int .i64 (yf : Int), .int .i64 (yt : Int)] 37)) w6 → w6.cell? ⟨w2.heap.size + 1 + 1, 0, none⟩ = some (.int .i64 (yv : Int)) ∧ w6.cell? ⟨w2.heap.size + 1 + 1, 1, none⟩ = some (.int .i64 (yf : Int)) ∧ w6.cell? ⟨w2.heap.size + 1 + 1, 2, none⟩ = some (.int .i64 (yt : Int))) := Lib.hid (fun w6 h6 => by
                     have h7 := heap_alloc_new ((w2.alloc (.cells #[.string cp, .int .i64 cu, .int .i64 ca, .int .i64 cd] 39)).alloc (.cells #[.int .i64 d, .slice sad sn sc] 55)) (.cells #[.int .i64 (yv : Int), .int .i64 (yf : Int), .int .i64 (yt : Int)] 37)
                     rw [size_al, size_al] at h7
                     have h8 := blk h6 (lt_blk h7) h7
                     exact ⟨cell_blk h8 0, cell_blk h8 1, cell_blk h8 2⟩)
                   have HQE : Hid (∀ w6, Below (((w2.alloc (.cells #[.string cp, .int .i64 cu, .int .i64 ca, .int .i64 cd] 39)).alloc (.cells #[.int .i64 d, .slice sad sn sc] 55)).alloc (.cells #[.int .i64 (yv : Int), .int .i64 (yf : Int), .int .i64 (yt : Int)] 37)).heap.size (((w2.alloc (.cells #[.string cp, .int .i64 cu, .int .i64 ca, .int .i64 cd] 39)).alloc (.cells #[.int .i64 d, .slice sad sn sc] 55)).alloc (.cells #[.int .i64 (yv : Int), .int .i64 (yf : Int), .int .i64 (yt : Int)] 37)) w6 → w6.cell? ⟨w2.heap.size, 2, none⟩ = some (.int .i64 ca)) := Lib.hid (fun w6 h6 => cell_blk (blk h6 (by simp <;> omega) (blk (one_below _ _) (by simp <;> omega) (blk (one_below _ _) (by simp) HC2.out))) 2)
                   have HA2 : Hid (∀ w6, Below (((w2.alloc (.cells #[.string cp, .int .i64 cu, .int .i64 ca, .int .i64 cd] 39)).alloc (.cells #[.int .i64 d, .slice sad sn sc] 55)).alloc (.cells #[.int .i64 (yv : Int), .int .i64 (yf : Int), .int .i64 (yt : Int)] 37)).heap.size (((w2.alloc (.cells #[.string cp, .int .i64 cu, .int .i64 ca, .int .i64 cd] 39)).alloc (.cells #[.int .i64 d, .slice sad sn sc] 55)).alloc (.cells #[.int .i64 (yv : Int), .int .i64 (yf : Int), .int .i64 (yt : Int)] 37)) w6 → Calls Tryd.prog 31 #[.agg #[vv, .string fr, .int .i64 ch], .agg #[.int .i64 (yv : Int), .int .i64 (yf : Int), .int .i64 (yt : Int)]] w6 (Ret w6 (.agg #[.string gp, .int .i64 gu, .int .i64 ga, .int .i64 gd]))) := Lib.hid (fun w6 h6 => arrive_any V vv fr ch ⟨yv, yf, yt⟩ ⟨gp, gu, ga, gd⟩ w6 (HVS.out w6 (HBS.out.trans (h6.mono HBS.out.size))) HGA.out)
                   clear hb2)
                | ((with_reducible refine Mp.wplIn_got (Any.isWide_round l) (b := bm) (l := esR) (key := cp) ?_ ?_ ?_ Tryd.underlying56 Tryd.underlying9 (zeroStop _) HM2.out HRG.out ?_); rfl; rfl; rfl)
                | ((with_reducible refine Mp.wplIn_got (Any.isWide_round l) (b := bf) (l := es) (key := cp) ?_ ?_ ?_ Tryd.underlying57 Tryd.underlying9 (zeroLeg _) (HZ2.out _) HFG.out ?_); rfl; rfl; rfl)
                | fail)
              refine Any.region_litIn (Any.isWide_round l) (fun
                | 0 => Any.val (.bool true)
                | 1 => Any.val (.bool true)
                | 2 => Any.val (.agg #[vv, .string fr, .int .i64 ch])
                | 3 => Any.val (.agg #[.int .i64 (yv : Int), .int .i64 (yf : Int), .int .i64 (yt : Int)])
                | 4 => Any.val (.agg #[.string gp, .int .i64 gu, .int .i64 ga, .int .i64 gd])
                | 5 => Any.val (.int .i64 ga)
                | 6 => Any.val (.pointer (some ⟨w2.heap.size, 2, none⟩))
                | 7 => Any.val (.int .i64 ca)
                | 8 => Any.val (.bool (decide (ga ≤ ca)))
                | 9 => Any.val (.bool (decide (ga ≤ ca)))
                | _ => Any.idle) (by kernel_rfl) (by kernel_rfl) (by kernel_rfl) (by kernel_rfl) ?_ ?_ ?_
              · intro i _
                match i with
                | 0 => exact Any.lasts_val _
                | 1 => exact Any.lasts_val _
                | 2 => exact Any.lasts_val _
                | 3 => exact Any.lasts_val _
                | 4 => exact Any.lasts_val _
                | 5 => exact Any.lasts_val _
                | 6 => exact Any.lasts_val _
                | 7 => exact Any.lasts_val _
                | 8 => exact Any.lasts_val _
                | 9 => exact Any.lasts_val _
                | n + 10 => exact Any.lasts_idle
              · refine ⟨?_, ?_, ?_, ?_, ?_, ?_, ?_, ?_, ?_, ?_, trivial⟩
                · refine Any.owes_plain rfl fun ρ wo hs' hb hc' => ?_
                  have h11 : ρ (.tmp 11) = .bool true := hs'.old' 11 (by kernel_rfl)
                  exact Any.ok_move (Any.post_val hb rfl h11)
                · refine Any.owes_plain rfl fun ρ wo hs' hb hc' => ?_
                  have h47 : ρ (.tmp 47) = .bool true := hs'.new' 47 0 (by kernel_rfl)
                  exact Any.ok_move (Any.post_val hb rfl h47)
                · refine Any.owes_on rfl rfl (by kernel_rfl) rfl fun ρ wo hs' hb hc' => ?_
                  have h2 : ρ (.tmp 2) = .pointer (some ⟨b0, 0, none⟩) := hs'.old' 2 (by kernel_rfl)
                  obtain ⟨c0, c1, c2⟩ := HQS.out wo (below_undrew hb)
                  go_simp
                  exact Any.post_val hb rfl rfl
                · refine Any.owes_on rfl rfl (by kernel_rfl) rfl fun ρ wo hs' hb hc' => ?_
                  have h10 : ρ (.tmp 10) = .pointer (some ⟨w2.heap.size + 1 + 1, 0, none⟩) := hs'.old' 10 (by kernel_rfl)
                  obtain ⟨c0, c1, c2⟩ := HQB.out wo (below_undrew hb)
                  go_simp
                  exact Any.post_val hb rfl rfl
                · refine Any.owes_on rfl rfl (by kernel_rfl) rfl fun ρ wo hs' hb hc' => ?_
                  have h49 : ρ (.tmp 49) = .agg #[vv, .string fr, .int .i64 ch] := hs'.new' 49 2 (by kernel_rfl)
                  have h50 : ρ (.tmp 50) = .agg #[.int .i64 (yv : Int), .int .i64 (yf : Int), .int .i64 (yt : Int)] := hs'.new' 50 3 (by kernel_rfl)
                  have hf := hs'.func 31
                  go_simp
                  exact (HA2.out wo (below_undrew hb)).mono fun e w' ⟨he, hb'⟩ => ⟨_, he, Any.post_vals hb rfl rfl hb'⟩
                · refine Any.owes_on rfl rfl (by kernel_rfl) rfl fun ρ wo hs' hb hc' => ?_
                  have h51 : ρ (.tmp 51) = .agg #[.string gp, .int .i64 gu, .int .i64 ga, .int .i64 gd] := hs'.new' 51 4 (by kernel_rfl)
                  go_simp
                  exact Any.post_val hb rfl rfl
                · refine Any.owes_on rfl rfl (by kernel_rfl) rfl fun ρ wo hs' hb hc' => ?_
                  have h7 : ρ (.tmp 7) = .pointer (some ⟨w2.heap.size, 0, none⟩) := hs'.old' 7 (by kernel_rfl)
                  go_simp
                  exact Any.post_val hb rfl rfl
                · refine Any.owes_on rfl rfl (by kernel_rfl) rfl fun ρ wo hs' hb hc' => ?_
                  have h53 : ρ (.tmp 53) = .pointer (some ⟨w2.heap.size, 2, none⟩) := hs'.new' 53 6 (by kernel_rfl)
                  have c0 := HQE.out wo (below_undrew hb)
                  go_simp
                  exact Any.post_val hb rfl rfl
                · refine Any.owes_on rfl rfl (by kernel_rfl) rfl fun ρ wo hs' hb hc' => ?_
                  have h52 : ρ (.tmp 52) = .int .i64 ga := hs'.new' 52 5 (by kernel_rfl)
                  have h54 : ρ (.tmp 54) = .int .i64 ca := hs'.new' 54 7 (by kernel_rfl)
                  go_simp
                  exact Any.post_val hb rfl rfl
                · refine Any.owes_plain rfl fun ρ wo hs' hb hc' => ?_
                  have h48 : ρ (.tmp 48) = .bool true := hs'.new' 48 1 (by kernel_rfl)
                  have h55 : ρ (.tmp 55) = .bool (decide (ga ≤ ca)) := hs'.new' 55 8 (by kernel_rfl)
                  go_simp
                  exact Any.post_val hb rfl rfl
              · intro vals w6 hb hk ha
                have h9 : vals 9 = .bool (decide (ga ≤ ca)) := hk 9 (by kernel_rfl)
                have HB6 := Lib.hid hb
                clear hk ha hb
                simp only [Any.putAll]
                go_frame
                simp only [Nat.zero_add, Nat.reduceAdd]
                rw [h9, tq]
                gi_wp2_with fail
                exact anI_below HI.out (HBS.out.trans (HB6.out.mono HBS.out.size)) HST.out
            · have HST := Lib.hid (HSTU.out (by rw [HLF.out, decide_eq_false hq]))
              have tq : decide (ga ≤ ca) = false := decide_eq_false hq
              clear hq
              gi_wp2_with (first
                | ((with_reducible refine ⟨Any.isWide.fn _, ((Any.isWide_round l).calls HA1.out).mono ?_⟩); rintro e w2 ⟨rfl, hb2⟩
                   have HB2 := Lib.hid hb2
                   have HF2 := Lib.hid (HFX.out w2 hb2)
                   obtain ⟨y0, y1, y2, y3, y4, y5, y6, y7, l0, l1, l3, lx⟩ := HF2.out
                   have HC2 := Lib.hid (heap_alloc_new w2 (.cells #[.string cp, .int .i64 cu, .int .i64 ca, .int .i64 cd] 39))
                   have HM2 : Hid (Mp.MapAt (w2.alloc (.cells #[.string cp, .int .i64 cu, .int .i64 ca, .int .i64 cd] 39)) bm esR) := Lib.hid (HMR.out _ (hb2.alloc hb2.size _))
                   have HZ2 : Hid (∀ o1, Mp.MapAt ((w2.alloc (.cells #[.string cp, .int .i64 cu, .int .i64 ca, .int .i64 cd] 39)).alloc o1) bf es) := Lib.hid (fun o1 => HMF.out _ ((hb2.alloc hb2.size _).alloc (by rw [size_al]; have := hb2.size; omega) _))
                   have HBS : Hid (Below W.heap.size W (((w2.alloc (.cells #[.string cp, .int .i64 cu, .int .i64 ca, .int .i64 cd] 39)).alloc (.cells #[.int .i64 d, .slice sad sn sc] 55)).alloc (.cells #[.int .i64 (yv : Int), .int .i64 (yf : Int), .int .i64 (yt : Int)] 37))) := Lib.hid (((HB2.out.alloc HB2.out.size _).alloc (by rw [size_al]; have := HB2.out.size; omega) _).alloc (by rw [size_al, size_al]; have := HB2.out.size; omega) _)
                   have HQP : Hid (∀ w6, Below (((w2.alloc (.cells #[.string cp, .int .i64 cu, .int .i64 ca, .int .i64 cd] 39)).alloc (.cells #[.int .i64 d, .slice sad sn sc] 55)).alloc (.cells #[.int .i64 (yv : Int), .int .i64 (yf : Int), .int .i64 (yt : Int)] 37)).heap.size (((w2.alloc (.cells #[.string cp, .int .i64 cu, .int .i64 ca, .int .i64 cd] 39)).alloc (.cells #[.int .i64 d, .slice sad sn sc] 55)).alloc (.cells #[.int .i64 (yv : Int), .int .i64 (yf : Int), .int .i64 (yt : Int)] 37)) w6 → w6.cell? ⟨w2.heap.size, 0, none⟩ = some (.string cp)) := Lib.hid (fun w6 h6 => cell_blk (blk h6 (by simp <;> omega) (blk (one_below _ _) (by simp <;> omega) (blk (one_below _ _) (by simp) HC2.out))) 0)
                   have HQS : Hid (∀ w6, Below (((w2.alloc (.cells #[.string cp, .int .i64 cu, .int .i64 ca, .int .i64 cd] 39)).alloc (.cells #[.int .i64 d, .slice sad sn sc] 55)).alloc (.cells #[.int .i64 (yv : Int), .int .i64 (yf : Int), .int .i64 (yt : Int)] 37)).heap.size (((w2.alloc (.cells #[.string cp, .int .i64 cu, .int .i64 ca, .int .i64 cd] 39)).alloc (.cells #[.int .i64 d, .slice sad sn sc] 55)).alloc (.cells #[.int .i64 (yv : Int), .int .i64 (yf : Int), .int .i64 (yt : Int)] 37)) w6 → w6.cell? ⟨b0, 0, none⟩ = some vv ∧ w6.cell? ⟨b0, 1, none⟩ = some (.string fr) ∧ w6.cell? ⟨b0, 2, none⟩ = some (.int .i64 ch)) := Lib.hid (fun w6 h6 => by
                     obtain ⟨z0, z1, z2, -⟩ := HFX.out w6 (HBS.out.trans (h6.mono HBS.out.size))
                     exact ⟨z0, z1, z2⟩)
                   have HQB : Hid (∀ w6, Below (((w2.alloc (.cells #[.string cp, .int .i64 cu, .int .i64 ca, .int .i64 cd] 39)).alloc (.cells #[.int .i64 d, .slice sad sn sc] 55)).alloc (.cells #[.int .i64 (yv : Int), .int .i64 (yf : Int), .int .i64 (yt : Int)] 37)).heap.size (((w2.alloc (.cells #[.string cp, .int .i64 cu, .int .i64 ca, .int .i64 cd] 39)).alloc (.cells #[.int .i64 d, .slice sad sn sc] 55)).alloc (.cells #[.int .i64 (yv : Int), .int .i64 (yf : Int), .int .i64 (yt : Int)] 37)) w6 → w6.cell? ⟨w2.heap.size + 1 + 1, 0, none⟩ = some (.int .i64 (yv : Int)) ∧ w6.cell? ⟨w2.heap.size + 1 + 1, 1, none⟩ = some (.int .i64 (yf : Int)) ∧ w6.cell? ⟨w2.heap.size + 1 + 1, 2, none⟩ = some (.int .i64 (yt : Int))) := Lib.hid (fun w6 h6 => by
                     have h7 := heap_alloc_new ((w2.alloc (.cells #[.string cp, .int .i64 cu, .int .i64 ca, .int .i64 cd] 39)).alloc (.cells #[.int .i64 d, .slice sad sn sc] 55)) (.cells #[.int .i64 (yv : Int), .int .i64 (yf : Int), .int .i64 (yt : Int)] 37)
                     rw [size_al, size_al] at h7
                     have h8 := blk h6 (lt_blk h7) h7
                     exact ⟨cell_blk h8 0, cell_blk h8 1, cell_blk h8 2⟩)
                   have HQE : Hid (∀ w6, Below (((w2.alloc (.cells #[.string cp, .int .i64 cu, .int .i64 ca, .int .i64 cd] 39)).alloc (.cells #[.int .i64 d, .slice sad sn sc] 55)).alloc (.cells #[.int .i64 (yv : Int), .int .i64 (yf : Int), .int .i64 (yt : Int)] 37)).heap.size (((w2.alloc (.cells #[.string cp, .int .i64 cu, .int .i64 ca, .int .i64 cd] 39)).alloc (.cells #[.int .i64 d, .slice sad sn sc] 55)).alloc (.cells #[.int .i64 (yv : Int), .int .i64 (yf : Int), .int .i64 (yt : Int)] 37)) w6 → w6.cell? ⟨w2.heap.size, 2, none⟩ = some (.int .i64 ca)) := Lib.hid (fun w6 h6 => cell_blk (blk h6 (by simp <;> omega) (blk (one_below _ _) (by simp <;> omega) (blk (one_below _ _) (by simp) HC2.out))) 2)
                   have HA2 : Hid (∀ w6, Below (((w2.alloc (.cells #[.string cp, .int .i64 cu, .int .i64 ca, .int .i64 cd] 39)).alloc (.cells #[.int .i64 d, .slice sad sn sc] 55)).alloc (.cells #[.int .i64 (yv : Int), .int .i64 (yf : Int), .int .i64 (yt : Int)] 37)).heap.size (((w2.alloc (.cells #[.string cp, .int .i64 cu, .int .i64 ca, .int .i64 cd] 39)).alloc (.cells #[.int .i64 d, .slice sad sn sc] 55)).alloc (.cells #[.int .i64 (yv : Int), .int .i64 (yf : Int), .int .i64 (yt : Int)] 37)) w6 → Calls Tryd.prog 31 #[.agg #[vv, .string fr, .int .i64 ch], .agg #[.int .i64 (yv : Int), .int .i64 (yf : Int), .int .i64 (yt : Int)]] w6 (Ret w6 (.agg #[.string gp, .int .i64 gu, .int .i64 ga, .int .i64 gd]))) := Lib.hid (fun w6 h6 => arrive_any V vv fr ch ⟨yv, yf, yt⟩ ⟨gp, gu, ga, gd⟩ w6 (HVS.out w6 (HBS.out.trans (h6.mono HBS.out.size))) HGA.out)
                   clear hb2)
                | ((with_reducible refine Mp.wplIn_got (Any.isWide_round l) (b := bm) (l := esR) (key := cp) ?_ ?_ ?_ Tryd.underlying56 Tryd.underlying9 (zeroStop _) HM2.out HRG.out ?_); rfl; rfl; rfl)
                | ((with_reducible refine Mp.wplIn_got (Any.isWide_round l) (b := bf) (l := es) (key := cp) ?_ ?_ ?_ Tryd.underlying57 Tryd.underlying9 (zeroLeg _) (HZ2.out _) HFG.out ?_); rfl; rfl; rfl)
                | fail)
              refine Any.region_litIn (Any.isWide_round l) (fun
                | 0 => Any.val (.bool true)
                | 1 => Any.val (.bool true)
                | 2 => Any.val (.agg #[vv, .string fr, .int .i64 ch])
                | 3 => Any.val (.agg #[.int .i64 (yv : Int), .int .i64 (yf : Int), .int .i64 (yt : Int)])
                | 4 => Any.val (.agg #[.string gp, .int .i64 gu, .int .i64 ga, .int .i64 gd])
                | 5 => Any.val (.int .i64 ga)
                | 6 => Any.val (.pointer (some ⟨w2.heap.size, 2, none⟩))
                | 7 => Any.val (.int .i64 ca)
                | 8 => Any.val (.bool (decide (ga ≤ ca)))
                | 9 => Any.val (.bool (decide (ga ≤ ca)))
                | _ => Any.idle) (by kernel_rfl) (by kernel_rfl) (by kernel_rfl) (by kernel_rfl) ?_ ?_ ?_
              · intro i _
                match i with
                | 0 => exact Any.lasts_val _
                | 1 => exact Any.lasts_val _
                | 2 => exact Any.lasts_val _
                | 3 => exact Any.lasts_val _
                | 4 => exact Any.lasts_val _
                | 5 => exact Any.lasts_val _
                | 6 => exact Any.lasts_val _
                | 7 => exact Any.lasts_val _
                | 8 => exact Any.lasts_val _
                | 9 => exact Any.lasts_val _
                | n + 10 => exact Any.lasts_idle
              · refine ⟨?_, ?_, ?_, ?_, ?_, ?_, ?_, ?_, ?_, ?_, trivial⟩
                · refine Any.owes_plain rfl fun ρ wo hs' hb hc' => ?_
                  have h11 : ρ (.tmp 11) = .bool true := hs'.old' 11 (by kernel_rfl)
                  exact Any.ok_move (Any.post_val hb rfl h11)
                · refine Any.owes_plain rfl fun ρ wo hs' hb hc' => ?_
                  have h47 : ρ (.tmp 47) = .bool true := hs'.new' 47 0 (by kernel_rfl)
                  exact Any.ok_move (Any.post_val hb rfl h47)
                · refine Any.owes_on rfl rfl (by kernel_rfl) rfl fun ρ wo hs' hb hc' => ?_
                  have h2 : ρ (.tmp 2) = .pointer (some ⟨b0, 0, none⟩) := hs'.old' 2 (by kernel_rfl)
                  obtain ⟨c0, c1, c2⟩ := HQS.out wo (below_undrew hb)
                  go_simp
                  exact Any.post_val hb rfl rfl
                · refine Any.owes_on rfl rfl (by kernel_rfl) rfl fun ρ wo hs' hb hc' => ?_
                  have h10 : ρ (.tmp 10) = .pointer (some ⟨w2.heap.size + 1 + 1, 0, none⟩) := hs'.old' 10 (by kernel_rfl)
                  obtain ⟨c0, c1, c2⟩ := HQB.out wo (below_undrew hb)
                  go_simp
                  exact Any.post_val hb rfl rfl
                · refine Any.owes_on rfl rfl (by kernel_rfl) rfl fun ρ wo hs' hb hc' => ?_
                  have h49 : ρ (.tmp 49) = .agg #[vv, .string fr, .int .i64 ch] := hs'.new' 49 2 (by kernel_rfl)
                  have h50 : ρ (.tmp 50) = .agg #[.int .i64 (yv : Int), .int .i64 (yf : Int), .int .i64 (yt : Int)] := hs'.new' 50 3 (by kernel_rfl)
                  have hf := hs'.func 31
                  go_simp
                  exact (HA2.out wo (below_undrew hb)).mono fun e w' ⟨he, hb'⟩ => ⟨_, he, Any.post_vals hb rfl rfl hb'⟩
                · refine Any.owes_on rfl rfl (by kernel_rfl) rfl fun ρ wo hs' hb hc' => ?_
                  have h51 : ρ (.tmp 51) = .agg #[.string gp, .int .i64 gu, .int .i64 ga, .int .i64 gd] := hs'.new' 51 4 (by kernel_rfl)
                  go_simp
                  exact Any.post_val hb rfl rfl
                · refine Any.owes_on rfl rfl (by kernel_rfl) rfl fun ρ wo hs' hb hc' => ?_
                  have h7 : ρ (.tmp 7) = .pointer (some ⟨w2.heap.size, 0, none⟩) := hs'.old' 7 (by kernel_rfl)
                  go_simp
                  exact Any.post_val hb rfl rfl
                · refine Any.owes_on rfl rfl (by kernel_rfl) rfl fun ρ wo hs' hb hc' => ?_
                  have h53 : ρ (.tmp 53) = .pointer (some ⟨w2.heap.size, 2, none⟩) := hs'.new' 53 6 (by kernel_rfl)
                  have c0 := HQE.out wo (below_undrew hb)
                  go_simp
                  exact Any.post_val hb rfl rfl
                · refine Any.owes_on rfl rfl (by kernel_rfl) rfl fun ρ wo hs' hb hc' => ?_
                  have h52 : ρ (.tmp 52) = .int .i64 ga := hs'.new' 52 5 (by kernel_rfl)
                  have h54 : ρ (.tmp 54) = .int .i64 ca := hs'.new' 54 7 (by kernel_rfl)
                  go_simp
                  exact Any.post_val hb rfl rfl
                · refine Any.owes_plain rfl fun ρ wo hs' hb hc' => ?_
                  have h48 : ρ (.tmp 48) = .bool true := hs'.new' 48 1 (by kernel_rfl)
                  have h55 : ρ (.tmp 55) = .bool (decide (ga ≤ ca)) := hs'.new' 55 8 (by kernel_rfl)
                  go_simp
                  exact Any.post_val hb rfl rfl
              · intro vals w6 hb hk ha
                have h9 : vals 9 = .bool (decide (ga ≤ ca)) := hk 9 (by kernel_rfl)
                have HB6 := Lib.hid hb
                clear hk ha hb
                simp only [Any.putAll]
                go_frame
                simp only [Nat.zero_add, Nat.reduceAdd]
                rw [h9, tq]
                have HF6 := Lib.hid (HFX.out w6 (HBS.out.trans (HB6.out.mono HBS.out.size)))
                obtain ⟨y0, y1, y2, y3, y4, y5, y6, y7, l0, l1, l3, lx⟩ := HF6.out
                have q0 := HQP.out w6 HB6.out
                have HM6 := Lib.hid (HMF.out w6 (HBS.out.trans (HB6.out.mono HBS.out.size)))
                gi_wp2_with (first
                  | ((with_reducible refine Mp.wplIn_update (Any.isWide_round l) (b := bf) (l := es) (key := cp) (v := .agg #[.int .i64 (xv : Int), .int .i64 (xf : Int), .int .i64 (xt : Int)]) ?_ ?_ ?_ ?_ Tryd.underlying57 Tryd.underlying9 HM6.out ?_); rfl; rfl; rfl; rfl; intro w7 hm7 hg7 _; have HM7 := Lib.hid hm7; have HG7 := Lib.hid hg7; clear hm7 hg7; go_frame)
                  | fail)
                exact anI_put (x := ⟨⟨xv, xf, xt⟩, hx⟩) HI.out (HBS.out.trans (HB6.out.mono HBS.out.size)) HBF.out HFE.out HG7.out HM7.out HST.out
  case done =>
    rintro D ys W hD hys hI hK
    have hz := HSZ.out
    have hk := hI.keep
    have k3 := hk.blk HIB3.out (by omega)
    have y4 := cell_blk k3 0
    obtain ⟨es, hme, hfe⟩ := hI.map
    rw [hys] at hfe
    clear hz
    gi_wp2
    have hz := HSZ.out
    refine ⟨by simp, .inl ⟨_, _, rfl, run_takeDeferred hK, ?_⟩⟩
    have hkw : Below w.heap.size w W := hk.behind HB1.out HB1.out.size (fun k hlt e => by omega)
    exact ⟨_, results_tmp rfl _ _ _, bf, es, rfl, hme.same (World.putObj_heap_other (by omega)), hfe, by omega, hkw.trans (belowK_b (w := w) (Nat.le_refl _) W D _ _ (by omega) hK rfl rfl)⟩
  case stop =>
    rintro D c pre W _ _ h _
    exact h.elim
end Go.Proofs.YtbmjficiceiekaaDoor.Sc
