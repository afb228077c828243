/- The document's examples. Lots joined: by the reference. -/
import Derived.Test.YtbigoifpfkdkjaaGreatDoorTd25
import Derived.Test.YtbigoifpfkdkjaaGreatDoorTd33
import Derived.Test.YtbigoifpfkdkjaaGreatDoorTd39
import Derived.Test.YtbigoifpfkdkjaaGreatDoorTd01
import Derived.Test.YtbigoifpfkdkjaaGreatDoorTd28
import Derived.Test.YtbigoifpfkdkjaaGreatDoorTd31
import Derived.Test.YtbigoifpfkdkjaaGreatDoorTd27
import Derived.Test.YtbigoifpfkdkjaaGreatDoorTd34
import Derived.Lib.LaidTab
import Derived.Stop.LaidErr
import Derived.Test.YtbigoifpfkdkjaaGreatDoorTie
import Derived.Test.YtbigoifpfkdkjaaGreatDoorCards
import Derived.LaidMore
import Derived.Stop.Joined
import Derived.SevenTiedAt
import Derived.StillTailTactics
namespace Go.Proofs.YtbigoifpfkdkjaaGreatDoor.Sc
open Go Go.RowKit Go.ChangeShapes Go.WideShapes Go.ChangeAt
set_option maxRecDepth 100000

def TableP (w : World) (l : List Gd) (e : Ending) (w' : World) : Prop := Below w.heap.size w w' ∧ ((¬ tabC l = 0 ∧ e = .returned (.pointer none)) ∨ (tabC l = 0 ∧ ∃ bt bm, e = .returned (.pointer (some ⟨bt, 0, none⟩)) ∧ Tab w' bt bm l))
end Go.Proofs.YtbigoifpfkdkjaaGreatDoor.Sc
namespace Go.Proofs.YtbigoifpfkdkjaaGreatDoor.Sc
open Go Go.RowKit Go.ChangeShapes Go.WideShapes Go.ChangeAt
set_option maxRecDepth 100000

def laidA := Rows.topPackedRow.laid
/-- Both tables. -/
def Lw (w : World) : Prop := ApT w ∧ TabW w
theorem Lw.below {w w' : World} (h : Lw w) (hb : Below w.heap.size w w') : Lw w' := ⟨h.1.below hb, h.2.below hb⟩
theorem laidMet_tail {P : Program} {x : String × DataW Unit} {rest : List (String × DataW Unit)} {W : World} (h : laidMet P (x :: rest) W) : laidMet P rest W := Go.laidMet.tail h
theorem tab_of_laid {W : World} (h : laidMetH Tryz.prog laidA W) : TabW W := by
  rw [MakeChecks.laidMetH_plain _ _ _ (by kernel_rfl)] at h
  have h2 : laidMet Tryz.prog [("internal/strconv.uint64pow10", Lib.tabData .u64 Lib.pow10Tab), ("supercargo/goods.apart", Rows.laid_supercargo_goods_apart)] W := laidMet_tail (laidMet_tail h)
  exact Lib.tabIs_of_head (g := 3) (t := 305) (e := 205) (n := 20) (by kernel_rfl) (by kernel_rfl) Tryz.underlying305 Tryz.underlying205 (by kernel_rfl) (by kernel_rfl) h2
theorem tApart : (Tryz.prog.globals[0]?).map (·.type) = some 233 := by kernel_rfl
theorem apT_of_laid {W : World} (h : laidMetH Tryz.prog laidA W) : ApT W := by
  rw [MakeChecks.laidMetH_plain _ _ _ (by kernel_rfl)] at h
  have h2 : laidMet Tryz.prog [("supercargo/goods.apart", Rows.laid_supercargo_goods_apart)] W := laidMet_tail (laidMet_tail (laidMet_tail h))
  obtain ⟨ps, ⟨g0, t0, cs0, f0, p0, q0, hg0, ht0, hv0, hd0, _⟩, _⟩ := h2
  obtain rfl : g0 = 0 := Option.some.inj (hg0.symm.trans (by kernel_rfl))
  obtain rfl := Option.some.inj (tApart.symm.trans ht0)
  obtain ⟨xs, m1, rfl, hx1, hlen, hn3, hel⟩ := DataW.trod_array Tryz.underlying233 hd0
  have c3 : Tryz.prog.cellsOf 3 = 1 := by kernel_rfl
  have hx2 : xs.map (·.1) = [0, 1020, 40, 288, 288, 320, 0, 512, 0, 0].map fun v : Int => (DataW.lit (.int .i64 v) : DataW Unit) := by
    simp only [Prod.mk.injEq, Rows.laid_supercargo_goods_apart, DataW.agg.injEq] at hx1
    rw [← hx1.1]
    rfl
  have key : ∀ (j : Nat) (v : Int), [0, 1020, 40, 288, 288, 320, 0, 512, 0, 0][j]? = some v → W.cell? ⟨0, j, none⟩ = some (.int .i64 v) := by
    intro j v hv
    have hj : j < 10 := by have := (List.getElem?_eq_some_iff.1 hv).1; simpa using this
    have h1 := hel j hj
    rw [c3, Nat.mul_one] at h1
    have hxj : j < xs.length := by omega
    rw [List.getElem?_eq_getElem hxj] at h1
    obtain ⟨k, e1, e2, _⟩ := DataW.trod_int Tryz.underlying3 h1
    have h2 : (xs.map (·.1))[j]? = some (DataW.lit (.int .i64 v)) := by rw [hx2, List.getElem?_map, hv]; rfl
    rw [List.getElem?_map, List.getElem?_eq_getElem hxj, Option.map_some, e2] at h2
    have hk : k = v := by simpa using h2
    subst hk
    have h3 := World.var?_cell hg0 hv0 j
    rw [h3, ← Array.getElem?_toList]
    have h4 : (List.take 1 (List.drop j cs0.toList))[0]? = some (.int .i64 k) := by rw [e1]; rfl
    rw [List.getElem?_take, if_pos (by decide), List.getElem?_drop, Nat.add_zero] at h4
    exact h4
  have k0 := key 0 0 rfl
  exact ⟨World.block_lt_of_cell? W _ k0, k0, key 1 _ rfl, key 2 _ rfl, key 3 _ rfl, key 4 _ rfl, key 5 _ rfl, key 6 _ rfl, key 7 _ rfl, key 8 _ rfl, key 9 _ rfl⟩

/-- The door's own heap meets the condition. -/
theorem door_met (os : Os) (args : Array Value) : laidMetH Tryz.prog laidA ((World.doorLaid Tryz.prog 400 os).forCall (fun _ _ => 0) ⟨#[], args, []⟩).memory :=
  laidMetH_of_parts3 (fuel := 8) (laidMet_of_run' 8 (by kernel_rfl) (by kernel_rfl)) (by kernel_rfl) (by kernel_rfl)

/-- The lifted form of a law. -/
theorem law_liftedD (os : Os) (started : os.Started) {H : Type} {enc : TypeId × Value → H} {f : FuncId} {fn : Func} {s : ChangeSpec}
    (noInit : Tryz.prog.inits.idxOf? f = none) (hfn : Tryz.prog.funcs[f]? = some fn)
    (witness : ∃ (w : World) (tape : Tape) (i : Input), w.os = os ∧ (w.forCall tape i).Shaped Tryz.checked.prog ∧ i.vars = [] ∧ Input.okWide Tryz.checked.prog (w.forCall tape i) .any w.heap.size f i ∧
      ((s.pre enc Tryz.checked.prog fn [] false (w.forCall tape i).memory i.args ∧ laidMetH Tryz.prog laidA (w.forCall tape i).memory) ∧ sizedMet enc Tryz.checked.prog fn (OpenSpec.ofChange s) false (w.forCall tape i).memory i.args) ∧ ({} : Assume).holds Tryz.checked.prog (lone (Frame.enter Tryz.checked.prog f i.args .normal) [] (w.forCall tape i)))
    (hgood : fn.params.toList.all (fun t => Tryz.prog.readableRec t && decide (t < Tryz.prog.types.size)) = true)
    (hres : fn.resultTypes = #[4]) (hvars : s.vars = [])
    (hspec : ∀ (vs : List Value) (ds : List (DataW H)) (W : World) (p : List MemPlace), DataW.TrodAll enc Tryz.prog W 0 (fun _ => true) true fn.params.toList vs ds p → s.fn H (ds ++ []) = { results := [.lit (.bool true)], args := ds })
    (walk : ∀ (W : World) (base : Nat) (args : Array Value) (ds : List (DataW H)) (p : List MemPlace), Lw W → (∀ (j : Nat) t v, fn.params[j]? = some t → args[j]? = some v → Value.okWide Tryz.prog W .any base t v) →
      DataW.TrodAll enc Tryz.prog W 0 (fun _ => true) true fn.params.toList args.toList ds p → Calls Tryz.prog f args W (RetB W true)) :
    ReturnsInHanded {} Tryz.checked os f .any (fun w args => (s.pre enc Tryz.prog fn [] false w args ∧ laidMetH Tryz.prog laidA w) ∧ sizedMet enc Tryz.prog fn (OpenSpec.ofChange s) false w args) (s.post enc Tryz.prog fn false true false false) := by
  refine returnsInHanded_of_change_and (C := Tryz.checked) (X := fun w _ => laidMetH Tryz.prog laidA w) (fun _ _ _ hh h => h.of_heap hh) own started noInit hfn witness ?_
  intro W base args ds gs before hval hW _ _ hL _
  have hW' := hW
  obtain ⟨p, q, hA, hV, hbef, _, _⟩ := hW
  rw [hvars] at hV
  obtain ⟨rfl, rfl⟩ := trodVars_none hV
  rw [List.append_nil] at hbef
  refine (walk W base args ds p ⟨apT_of_laid hL, tab_of_laid hL⟩ hval hA).mono fun e W' h => ?_
  exact ⟨_, h.1, law_post hW' hA hbef hgood hres hvars (hspec _ _ _ _ hA) h.2⟩
/-- The lifted form of a law. -/
theorem law_liftedDs (os : Os) (started : os.Started) {H : Type} {enc : TypeId × Value → H} {f : FuncId} {fn : Func} {s : ChangeSpec}
    (noInit : Tryz.prog.inits.idxOf? f = none) (hfn : Tryz.prog.funcs[f]? = some fn)
    (witness : ∃ (w : World) (tape : Tape) (i : Input), w.os = os ∧ (w.forCall tape i).Shaped Tryz.checked.prog ∧ i.vars = [] ∧ Input.okWide Tryz.checked.prog (w.forCall tape i) .any w.heap.size f i ∧
      ((s.pre enc Tryz.checked.prog fn [] false (w.forCall tape i).memory i.args ∧ laidMetH Tryz.prog laidA (w.forCall tape i).memory) ∧ sizedMet enc Tryz.checked.prog fn (OpenSpec.ofChange s) false (w.forCall tape i).memory i.args) ∧ ({} : Assume).holds Tryz.checked.prog (lone (Frame.enter Tryz.checked.prog f i.args .normal) [] (w.forCall tape i)))
    (hgood : fn.params.toList.all (fun t => Tryz.prog.readableRec t && decide (t < Tryz.prog.types.size)) = true)
    (hres : fn.resultTypes = #[4]) (hvars : s.vars = [])
    (hspec : ∀ (vs : List Value) (ds : List (DataW H)) (W : World) (p : List MemPlace), DataW.TrodAll enc Tryz.prog W 0 (fun _ => true) true fn.params.toList vs ds p → s.fn H (ds ++ []) = { results := [.lit (.bool true)], args := ds })
    (walk : ∀ (W : World) (base : Nat) (args : Array Value) (ds : List (DataW H)) (p : List MemPlace), Lw W → (∀ (j : Nat) t v, fn.params[j]? = some t → args[j]? = some v → Value.okWide Tryz.prog W .any base t v) → (DataW.weightsEach Tryz.prog fn.params.toList ds).all (· ≤ reachBytes) = true →
      DataW.TrodAll enc Tryz.prog W 0 (fun _ => true) true fn.params.toList args.toList ds p → Calls Tryz.prog f args W (RetB W true)) :
    ReturnsInHanded {} Tryz.checked os f .any (fun w args => (s.pre enc Tryz.prog fn [] false w args ∧ laidMetH Tryz.prog laidA w) ∧ sizedMet enc Tryz.prog fn (OpenSpec.ofChange s) false w args) (s.post enc Tryz.prog fn false true false false) := by
  refine returnsInHanded_of_change_and (C := Tryz.checked) (X := fun w _ => laidMetH Tryz.prog laidA w) (fun _ _ _ hh h => h.of_heap hh) own started noInit hfn witness ?_
  intro W base args ds gs before hval hW _ hz hL _
  have hW' := hW
  obtain ⟨p, q, hA, hV, hbef, _, _⟩ := hW
  rw [hvars] at hV
  obtain ⟨rfl, rfl⟩ := trodVars_none hV
  rw [List.append_nil] at hbef
  have hz' : (DataW.weightsEach Tryz.prog fn.params.toList ds).all (· ≤ reachBytes) = true := by
    have hpv : s.plain.varTypes Tryz.prog = [] := by simp [ChangeSpec.plain, DataSpec.varTypes, hvars]
    have hz2 : (DataW.weightsEach Tryz.prog (fn.params.toList ++ s.plain.varTypes Tryz.prog) (ds ++ [])).all (· ≤ reachBytes) = true := hz
    rw [hpv, List.append_nil, List.append_nil] at hz2
    exact hz2
  refine (walk W base args ds p ⟨apT_of_laid hL, tab_of_laid hL⟩ hval hz' hA).mono fun e W' h => ?_
  exact ⟨_, h.1, law_post hW' hA hbef hgood hres hvars (hspec _ _ _ _ hA) h.2⟩
end Go.Proofs.YtbigoifpfkdkjaaGreatDoor.Sc
namespace Go.Proofs.YtbigoifpfkdkjaaGreatDoor.Sc
open Go Go.RowKit Go.ChangeShapes Go.WideShapes Go.ChangeAt
set_option maxRecDepth 100000

def awT : List Gd := [⟨⟨#[116, 101, 97]⟩, 0, 10, 100⟩]
def awO : ByteArray := ⟨#[97, 97, 97, 97]⟩
def awM : ByteArray := ⟨#[97, 97, 97, 97, 48, 48, 48, 48, 48, 49, 50, 48]⟩
def awK (c : Int) : List Lt := [⟨⟨#[116, 101, 97]⟩, c⟩]
theorem awT_code : tabC awT = 0 := by kernel_rfl
theorem awT_fit : ∀ r ∈ awT, r.fit := by
  intro r hr
  simp only [awT, List.mem_cons, List.not_mem_nil, or_false] at hr
  subst hr
  exact ⟨by decide⟩
theorem aw_big : packR awT 1 awO (awK 400) = (0, [⟨awM, 1, awK 400⟩]) := by kernel_rfl
theorem aw_small : packR awT 1 awO (awK 30) = (0, [⟨awM, 0, awK 30⟩]) := by kernel_rfl
def TabT (w : World) (l : List Gd) (e : Ending) (w' : World) : Prop := ∃ bt bm, e = .returned (.pointer (some ⟨bt, 0, none⟩)) ∧ Tab w' bt bm l ∧ Below w.heap.size w w'
theorem table_ok {w w' : World} {l : List Gd} {e : Ending} (h : TableP w l e w') (h0 : tabC l = 0) : TabT w l e w' := by
  obtain ⟨hb, ⟨h1, -⟩ | ⟨-, bt, bm, he, ht⟩⟩ := h
  · exact absurd h0 h1
  · exact ⟨bt, bm, he, ht, hb⟩
theorem table_no {w w' : World} {l : List Gd} {e : Ending} (h : TableP w l e w') (h0 : ¬ tabC l = 0) : Ret w (.pointer none) e w' := by
  obtain ⟨hb, ⟨-, he⟩ | ⟨h1, -⟩⟩ := h
  · exact ⟨he, hb⟩
  · exact absurd h1 h0
/-- One box, with one lot. -/
structure AwB (w : World) (g cap k g2 cap2 : Nat) (c : Int) : Prop where
  lt : g < w.heap.size ∧ g2 < w.heap.size
  mr : w.cell? ⟨g, 0, none⟩ = some (.string awM)
  kd : w.cell? ⟨g, 1, none⟩ = some (.int .i64 k)
  lo : w.cell? ⟨g, 2, none⟩ = some (.slice (some ⟨g2, 0, none⟩) 1 cap2)
  ct : w.cell? ⟨g2, 1, none⟩ = some (.int .i64 c)
theorem AwB.below {w w' : World} {g cap k g2 cap2 : Nat} {c : Int} (h : AwB w g cap k g2 cap2 c) (hb : Below w.heap.size w w') : AwB w' g cap k g2 cap2 c :=
  ⟨⟨Nat.lt_of_lt_of_le h.lt.1 hb.size, Nat.lt_of_lt_of_le h.lt.2 hb.size⟩, (hb.cell h.lt.1).trans h.mr, (hb.cell h.lt.1).trans h.kd, (hb.cell h.lt.1).trans h.lo, (hb.cell h.lt.2).trans h.ct⟩
def AwP (w : World) (k : Nat) (c : Int) (e : Ending) (w' : World) : Prop := ∃ g cap g2 cap2, e = .returned (.tuple #[.slice (some ⟨g, 0, none⟩) 1 cap, .int .i64 0]) ∧ AwB w' g cap k g2 cap2 c ∧ Below w.heap.size w w'
theorem aw_pack (k : Nat) (c : Int) (hv : packR awT 1 awO (awK c) = (0, [⟨awM, k, awK c⟩])) (W : World) (bt bm : Nat) (hap : ApT W) (htt : TabW W) (h : Tab W bt bm awT) :
    Calls Tryz.prog 29 #[.pointer (some ⟨bt, 0, none⟩), .int .i64 1, .string ⟨#[97, 97, 97, 97]⟩, .slice (some ⟨W.heap.size, 0, none⟩) 1 1] (W.alloc (.cells #[.string ⟨#[116, 101, 97]⟩, .int .i64 c] 107)) (AwP W k c) := by
  have hok := tabC_ok awT_code
  have al := one_below W (.cells #[.string ⟨#[116, 101, 97]⟩, .int .i64 c] 107)
  refine (pack_any awT (awK c) 1 awO bt bm _ _ (hap.below al) (htt.below al) ?_ (show (1 : Nat) < 20 by decide) (h.below al) hok.2.1 hok.1).mono fun e w' hh => ?_
  · refine .inr ⟨W.heap.size, 0, 1, rfl, by simp, show 1 ≤ 1 from Nat.le_refl _, by decide, fun i r hr j u hu => ?_⟩
    rw [cell_new]
    match i, hr with
    | 0, hr => obtain rfl := (Option.some.inj hr).symm; match j, hu with
      | 0, hu => exact hu
      | 1, hu => exact hu
  · rw [hv] at hh
    obtain ⟨hb, ⟨h1, -⟩ | ⟨-, v, R, rfl, hat, hR⟩⟩ := hh
    · exact absurd rfl h1
    obtain ⟨xv, rfl⟩ : ∃ xv, R = [⟨⟨awM, k, awK c⟩, xv⟩] := by
      match R, hR with
      | [], hR => cases hR
      | [x], hR =>
        obtain ⟨xb, xv⟩ := x
        simp only [List.map_cons, List.map_nil, List.cons.injEq, and_true] at hR
        subst hR
        exact ⟨xv, rfl⟩
      | _ :: _ :: _, hR => simp at hR
    · skip
      obtain ⟨g, cap, cur, rfl, hg, -, -, e0, e1, e2⟩ := hat.at (q := 0) (by simp)
      have hlo := (hat.lots _ List.mem_cons_self).2
      rcases hlo with ⟨-, h0⟩ | ⟨g2, cap2, cur2, hxv, -, hg2, -, -, -, h6⟩
      · exact absurd h0 (by simp [awK])
      · have c1 : cur2[1]? = some (.int .i64 c) := by
          rw [← Array.getElem?_toList]
          have h7 := congrArg (fun l : List Value => l[1]?) h6
          simp only [List.getElem?_take] at h7
          exact h7
        obtain rfl : xv = .slice (some ⟨g2, 0, none⟩) 1 cap2 := hxv
        refine ⟨g, cap, g2, cap2, rfl, ⟨⟨lt_blk hg, lt_blk hg2⟩, ?_, ?_, ?_, ?_⟩, (one_below W _).trans (hb.mono (by simp))⟩
        · rw [cell_blk hg]; exact e0
        · rw [cell_blk hg]; exact e1
        · rw [cell_blk hg]; exact e2
        · rw [cell_blk hg2]; exact c1
end Go.Proofs.YtbigoifpfkdkjaaGreatDoor.Sc
namespace Go.Proofs.YtbigoifpfkdkjaaGreatDoor.Sc
open Go Go.RowKit Go.ChangeShapes Go.WideShapes Go.ChangeAt
set_option maxRecDepth 100000

end Go.Proofs.YtbigoifpfkdkjaaGreatDoor.Sc
namespace Go.Proofs.YtbigoifpfkdkjaaGreatDoor.Sc
open Go Go.RowKit Go.ChangeShapes Go.WideShapes Go.ChangeAt
set_option maxRecDepth 100000

theorem ltCells_len (l : List Lt) : (ltCells l).length = l.length * 2 := by
  induction l with
  | nil => rfl
  | cons x r ih => simp only [ltCells, List.flatMap_cons, List.length_append, Lt.row, List.length_cons, List.length_nil] at *; omega
theorem ltCells_set : ∀ {l : List Lt} {k : Nat} (h : k < l.length) (c : Int), (ltCells l).set (k * 2 + 1) (.int .i64 c) = ltCells (l.set k ⟨l[k].good, c⟩)
  | x :: r, 0, _, c => rfl
  | x :: r, k + 1, h, c => by
    have ih := ltCells_set (l := r) (k := k) (by simpa using h) c
    have e : (k + 1) * 2 + 1 = (k * 2 + 1) + 1 + 1 := by omega
    rw [e]
    simp only [List.set_cons_succ, List.getElem_cons_succ]
    show Value.string x.good :: Value.int .i64 x.cnt :: (ltCells r).set (k * 2 + 1) (.int .i64 c) = _
    rw [ih]
    rfl
theorem ltCells_one (l : List Lt) : ∀ u ∈ ltCells l, u.oneCell' = true := by
  intro u hu
  obtain ⟨x, _, h⟩ := List.mem_flatMap.1 hu
  simp [Lt.row] at h
  rcases h with rfl | rfl <;> rfl
theorem src_lots {w : World} {v : Value} {l : List Lt} (h : Sl w 2 v (l.map Lt.row)) : Src w 2 v l.length (ltCells l) := by
  have := h.src (lt_rows l) (by decide)
  rw [ltCells_flat]
  simpa using this
theorem jIns_eq : ∀ {L : List Lt} {x : Lt} {k : Nat} (hk : k < L.length) (_ : ∀ j (h : j < L.length), j < k → bt L[j].good < bt x.good) (_ : L[k].good = x.good), jIns L x = L.set k ⟨L[k].good, L[k].cnt + x.cnt⟩
  | y :: r, x, 0, _, _, he => by
    have he' : y.good = x.good := he
    have hn : ¬ bt y.good < bt x.good := by rw [he']; exact List.lt_irrefl _
    simp only [jIns, if_neg hn, if_pos he']
    rfl
  | y :: r, x, k + 1, hk, hlt, he => by
    have h0 : bt y.good < bt x.good := hlt 0 (by simp) (by omega)
    have ih := jIns_eq (L := r) (x := x) (k := k) (by simpa using hk) (fun j h hj => hlt (j + 1) (by simpa using h) (by omega)) he
    rw [jIns, if_pos h0, ih]
    rfl
theorem jIns_new : ∀ {L : List Lt} {x : Lt} {k : Nat} (_ : k ≤ L.length) (_ : ∀ j (h : j < L.length), j < k → bt L[j].good < bt x.good) (_ : ∀ h : k < L.length, ¬ bt L[k].good < bt x.good ∧ ¬ L[k].good = x.good), jIns L x = L.take k ++ [x] ++ L.drop k
  | [], x, k, hk, _, _ => by
    obtain rfl : k = 0 := by simpa using hk
    rfl
  | y :: r, x, 0, _, _, he => by
    obtain ⟨h1, h2⟩ := he (by simp)
    have h1' : ¬ bt y.good < bt x.good := h1
    have h2' : ¬ y.good = x.good := h2
    rw [jIns, if_neg h1', if_neg h2']
    rfl
  | y :: r, x, k + 1, hk, hlt, he => by
    have h0 : bt y.good < bt x.good := hlt 0 (by simp) (by omega)
    have ih := jIns_new (L := r) (x := x) (k := k) (by simpa using hk) (fun j h hj => hlt (j + 1) (by simpa using h) (by omega)) (fun h => he (by simpa using h))
    rw [jIns, if_pos h0, ih]
    rfl
theorem own_ins {w : World} {B : Nat} {e : TypeId} {v : Value} {L : List Lt} {xn : ByteArray} {xc : Int} {k : Nat} (hk : k ≤ L.length) (h : w.ownsRow B e 2 v (k + 1 + (L.length - k)) (ltCells (L.take k) ++ [.string xn, .int .i64 xc] ++ ltCells (L.drop k))) :
    w.ownsRow B e 2 v (L.take k ++ [(⟨xn, xc⟩ : Lt)] ++ L.drop k).length (ltCells (L.take k ++ [(⟨xn, xc⟩ : Lt)] ++ L.drop k)) := by
  have e1 : (L.take k ++ [(⟨xn, xc⟩ : Lt)] ++ L.drop k).length = k + 1 + (L.length - k) := by
    simp [Nat.min_eq_left hk]
    omega
  rw [e1, ltCells_append, ltCells_append]
  exact h
theorem joinL_snoc {l : List Lt} {n : Nat} (h : n < l.length) : joinL (l.take (n + 1)) = if l[n].cnt < 1 then joinL (l.take n) else jIns (joinL (l.take n)) l[n] := by
  rw [List.take_succ_eq_append_getElem h, joinL, List.foldl_append]
  rfl
end Go.Proofs.YtbigoifpfkdkjaaGreatDoor.Sc
namespace Go.Proofs.YtbigoifpfkdkjaaGreatDoor.Sc
open Go Go.RowKit Go.ChangeShapes Go.WideShapes Go.ChangeAt
set_option maxRecDepth 100000

end Go.Proofs.YtbigoifpfkdkjaaGreatDoor.Sc
