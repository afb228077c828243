/- The lifted form of a law of this seat: the program's table as it is laid. -/
import Derived.Test.YtogkggmaibeboaaDoorLaw
import Derived.Test.YtogkggmaibeboaaDoorApart11
import Derived.Test.YtogkggmaibeboaaDoorTie
import Derived.Test.YtogkggmaibeboaaDoorCards
import Derived.LaidMore
import Derived.Stop.Joined
import Derived.SevenTiedAt
namespace Go.Proofs.YtogkggmaibeboaaDoor.Sc
open Go Go.RowKit Go.ChangeShapes Go.WideShapes Go.ChangeAt
set_option maxRecDepth 100000

def laidA := Rows.goodsApartRow.laid
theorem tApart : (Tryd.prog.globals[0]?).map (·.type) = some 60 := by kernel_rfl
theorem apT_of_laid {W : World} (h : laidMetH Tryd.prog laidA W) : ApT W := by
  rw [MakeChecks.laidMetH_plain _ _ _ (by kernel_rfl)] at h
  obtain ⟨ps, ⟨g0, t0, cs0, f0, p0, q0, hg0, ht0, hv0, hd0, _⟩, _⟩ := h
  obtain rfl : g0 = 0 := Option.some.inj (hg0.symm.trans (by kernel_rfl))
  obtain rfl := Option.some.inj (tApart.symm.trans ht0)
  obtain ⟨xs, m1, rfl, hx1, hlen, hn3, hel⟩ := DataW.trod_array Tryd.underlying60 hd0
  have c3 : Tryd.prog.cellsOf 3 = 1 := by kernel_rfl
  have hx2 : xs.map (·.1) = [0, 1020, 40, 288, 288, 320, 0, 512, 0, 0].map fun v : Int => (DataW.lit (.int .i64 v) : DataW Unit) := by
    simp only [Prod.mk.injEq, Rows.laid_supercargo_goods_apart, DataW.agg.injEq] at hx1
    rw [← hx1.1]
    rfl
  have key : ∀ (j : Nat) (v : Int), [0, 1020, 40, 288, 288, 320, 0, 512, 0, 0][j]? = some v → W.cell? ⟨0, j, none⟩ = some (.int .i64 v) := by
    intro j v hv
    have hj : j < 10 := by have := (List.getElem?_eq_some_iff.1 hv).1; simpa using this
    have h1 := hel j hj
    rw [c3, Nat.mul_one] at h1
    have hxj : j < xs.length := by omega
    rw [List.getElem?_eq_getElem hxj] at h1
    obtain ⟨k, e1, e2, _⟩ := DataW.trod_int Tryd.underlying3 h1
    have h2 : (xs.map (·.1))[j]? = some (DataW.lit (.int .i64 v)) := by rw [hx2, List.getElem?_map, hv]; rfl
    rw [List.getElem?_map, List.getElem?_eq_getElem hxj, Option.map_some, e2] at h2
    have hk : k = v := by simpa using h2
    subst hk
    have h3 := World.var?_cell hg0 hv0 j
    rw [h3, ← Array.getElem?_toList]
    have h4 : (List.take 1 (List.drop j cs0.toList))[0]? = some (.int .i64 k) := by rw [e1]; rfl
    rw [List.getElem?_take, if_pos (by decide), List.getElem?_drop, Nat.add_zero] at h4
    exact h4
  have k0 := key 0 0 rfl
  exact ⟨World.block_lt_of_cell? W _ k0, k0, key 1 _ rfl, key 2 _ rfl, key 3 _ rfl, key 4 _ rfl, key 5 _ rfl, key 6 _ rfl, key 7 _ rfl, key 8 _ rfl, key 9 _ rfl⟩

/-- The door's own heap meets the condition. -/
theorem door_met (os : Os) (args : Array Value) : laidMetH Tryd.prog laidA ((World.doorLaid Tryd.prog 400 os).forCall (fun _ _ => 0) ⟨#[], args, []⟩).memory :=
  laidMetH_of_parts3 (fuel := 8) (laidMet_of_run' 8 (by kernel_rfl) (by kernel_rfl)) (by kernel_rfl) (by kernel_rfl)

/-- The lifted form of a law. -/
theorem law_liftedD (os : Os) (started : os.Started) {H : Type} {enc : TypeId × Value → H} {f : FuncId} {fn : Func} {s : ChangeSpec}
    (noInit : Tryd.prog.inits.idxOf? f = none) (hfn : Tryd.prog.funcs[f]? = some fn)
    (witness : ∃ (w : World) (tape : Tape) (i : Input), w.os = os ∧ (w.forCall tape i).Shaped Tryd.checked.prog ∧ i.vars = [] ∧ Input.okWide Tryd.checked.prog (w.forCall tape i) .any w.heap.size f i ∧
      ((s.pre enc Tryd.checked.prog fn [] false (w.forCall tape i).memory i.args ∧ laidMetH Tryd.prog laidA (w.forCall tape i).memory) ∧ sizedMet enc Tryd.checked.prog fn (OpenSpec.ofChange s) false (w.forCall tape i).memory i.args) ∧ ({} : Assume).holds Tryd.checked.prog (lone (Frame.enter Tryd.checked.prog f i.args .normal) [] (w.forCall tape i)))
    (hgood : fn.params.toList.all (fun t => Tryd.prog.readableRec t && decide (t < Tryd.prog.types.size)) = true)
    (hres : fn.resultTypes = #[4]) (hvars : s.vars = [])
    (hspec : ∀ (vs : List Value) (ds : List (DataW H)) (W : World) (p : List MemPlace), DataW.TrodAll enc Tryd.prog W 0 (fun _ => true) true fn.params.toList vs ds p → s.fn H (ds ++ []) = { results := [.lit (.bool true)], args := ds })
    (walk : ∀ (W : World) (base : Nat) (args : Array Value) (ds : List (DataW H)) (p : List MemPlace), ApT W → (∀ (j : Nat) t v, fn.params[j]? = some t → args[j]? = some v → Value.okWide Tryd.prog W .any base t v) →
      DataW.TrodAll enc Tryd.prog W 0 (fun _ => true) true fn.params.toList args.toList ds p → Calls Tryd.prog f args W (RetB W true)) :
    ReturnsInHanded {} Tryd.checked os f .any (fun w args => (s.pre enc Tryd.prog fn [] false w args ∧ laidMetH Tryd.prog laidA w) ∧ sizedMet enc Tryd.prog fn (OpenSpec.ofChange s) false w args) (s.post enc Tryd.prog fn false true false false) := by
  refine returnsInHanded_of_change_and (C := Tryd.checked) (X := fun w _ => laidMetH Tryd.prog laidA w) (fun _ _ _ hh h => h.of_heap hh) own started noInit hfn witness ?_
  intro W base args ds gs before hval hW _ _ hL _
  have hW' := hW
  obtain ⟨p, q, hA, hV, hbef, _, _⟩ := hW
  rw [hvars] at hV
  obtain ⟨rfl, rfl⟩ := trodVars_none hV
  rw [List.append_nil] at hbef
  refine (walk W base args ds p (apT_of_laid hL) hval hA).mono fun e W' h => ?_
  exact ⟨_, h.1, law_post hW' hA hbef hgood hres hvars (hspec _ _ _ _ hA) h.2⟩
end Go.Proofs.YtogkggmaibeboaaDoor.Sc
