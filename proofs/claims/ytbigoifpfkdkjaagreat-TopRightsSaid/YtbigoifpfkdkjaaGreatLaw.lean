/- From a walk that returns true and leaves old memory as it was to the row of a law. -/
import Derived.Test.YtbigoifpfkdkjaaGreatBase
import Derived.Test.YtbigoifpfkdkjaaGreatRows
namespace Go.Proofs.YtbigoifpfkdkjaaGreat.Sc
open Go Go.RowKit Go.ChangeShapes Go.WideShapes Go.ChangeAt

theorem own : ownKnob Tryz.prog.godebug = none := by kernel_rfl
theorem laidOut : laidOutB Tryz.prog = true := by kernel_rfl

def RetB (w : World) (b : Bool) : Ending → World → Prop := Ret w (.bool b)
theorem retB {w w' : World} {b b' : Bool} (h : b' = b) (hb : Below w.heap.size w w') : RetB w b (.returned (.bool b')) w' := by subst h; exact ⟨rfl, hb⟩

theorem trodAll_below {H : Type} {enc : TypeId × Value → H} {W W' : World} (hb : Below W.heap.size W W') :
    ∀ (ts : List TypeId) (vs : List Value) (ds : List (DataW H)) (ps : List MemPlace), ts.all (fun t => Tryz.prog.readableRec t && decide (t < Tryz.prog.types.size)) = true →
      DataW.TrodAll enc Tryz.prog W 0 (fun _ => true) true ts vs ds ps → DataW.TrodAll enc Tryz.prog W' 0 (fun b => decide (b < W.heap.size)) true ts vs ds ps := by
  intro ts
  induction ts with
  | nil =>
    intro vs ds ps _ h
    obtain ⟨rfl, rfl, rfl⟩ := trodAll_nil h
    exact trodAll_mk0
  | cons t ts ih =>
    intro vs ds ps hg h
    obtain ⟨v, vs', d, ds', p, q, rfl, rfl, rfl, h1, h2⟩ := trodAll_cons h
    simp only [List.all_cons, Bool.and_eq_true, decide_eq_true_eq] at hg
    refine trodAll_cons_mk (Below.trod laidOut hg.1.1 hg.1.2 h1 hb ?_) (ih vs' ds' q hg.2 h2)
    obtain ⟨m, hm⟩ := h1
    exact DataW.trod_lt m _ _ _ hm

/-- What the row asks behind the call. -/
theorem law_post {H : Type} {enc : TypeId × Value → H} {fn : Func} {s : ChangeSpec} {W W' : World} {args : Array Value} {ds : List (DataW H)} {before p : List MemPlace}
    (hW : DataW.Whole enc Tryz.prog fn.params.toList s.vars false W args.toList ds [] before)
    (hA : DataW.TrodAll enc Tryz.prog W 0 (fun _ => true) true fn.params.toList args.toList ds p) (hbef : before = p)
    (hgood : fn.params.toList.all (fun t => Tryz.prog.readableRec t && decide (t < Tryz.prog.types.size)) = true)
    (hres : fn.resultTypes = #[4]) (hvars : s.vars = [])
    (hspec : s.fn H (ds ++ []) = { results := [.lit (.bool true)], args := ds })
    (hb : Below W.heap.size W W') : s.post enc Tryz.prog fn false true false false W args (.bool true) W' := by
  subst hbef
  refine ⟨_, _, _, [], before, [], hW, ?_, ?_, ?_, hb.frame _, fun h => by cases h⟩
  · rw [hspec, hres]
    exact trodAll_mk1 (shut_bool Tryz.underlying4 _)
  · rw [hspec]
    exact trodAll_below hb _ _ _ _ hgood hA
  · rw [hspec, hvars]
    rfl

set_option maxRecDepth 100000 in
/-- The lifted form of a law. -/
theorem law_lifted (os : Os) (started : os.Started) {H : Type} {enc : TypeId × Value → H} {f : FuncId} {fn : Func} {s : ChangeSpec}
    (noInit : Tryz.prog.inits.idxOf? f = none) (hfn : Tryz.prog.funcs[f]? = some fn)
    (witness : ∃ (w : World) (tape : Tape) (i : Input), w.os = os ∧ (w.forCall tape i).Shaped Tryz.checked.prog ∧ i.vars = [] ∧ Input.okWide Tryz.checked.prog (w.forCall tape i) .any w.heap.size f i ∧
      s.pre6 enc Tryz.checked.prog fn [] false (w.forCall tape i).memory i.args ∧ ({} : Assume).holds Tryz.checked.prog (lone (Frame.enter Tryz.checked.prog f i.args .normal) [] (w.forCall tape i)))
    (hgood : fn.params.toList.all (fun t => Tryz.prog.readableRec t && decide (t < Tryz.prog.types.size)) = true)
    (hres : fn.resultTypes = #[4]) (hvars : s.vars = [])
    (hspec : ∀ (vs : List Value) (ds : List (DataW H)) (W : World) (p : List MemPlace), DataW.TrodAll enc Tryz.prog W 0 (fun _ => true) true fn.params.toList vs ds p → s.fn H (ds ++ []) = { results := [.lit (.bool true)], args := ds })
    (walk : ∀ (W : World) (base : Nat) (args : Array Value) (ds : List (DataW H)) (p : List MemPlace), (∀ (j : Nat) t v, fn.params[j]? = some t → args[j]? = some v → Value.okWide Tryz.prog W .any base t v) →
      DataW.TrodAll enc Tryz.prog W 0 (fun _ => true) true fn.params.toList args.toList ds p → Calls Tryz.prog f args W (RetB W true)) :
    ReturnsInHanded {} Tryz.checked os f .any (s.pre6 enc Tryz.prog fn [] false) (s.post enc Tryz.prog fn false true false false) := by
  refine returnsInHanded_of_change (C := Tryz.checked) own started noInit hfn witness ?_
  intro W base args ds gs before hval hW _ _
  have hW' := hW
  obtain ⟨p, q, hA, hV, hbef, _, _⟩ := hW
  rw [hvars] at hV
  obtain ⟨rfl, rfl⟩ := trodVars_none hV
  rw [List.append_nil] at hbef
  refine (walk W base args ds p hval hA).mono fun e W' h => ?_
  exact ⟨_, h.1, law_post hW' hA hbef hgood hres hvars (hspec _ _ _ _ hA) h.2⟩

end Go.Proofs.YtbigoifpfkdkjaaGreat.Sc
