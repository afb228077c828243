/- slices.Clone at legs, maps.Clone, start. -/
import Derived.Test.YtbmjficiceiekaaDoorAnew16
namespace Go.Proofs.YtbmjficiceiekaaDoor.Any
open Go Go.RowKit
def imax (p q : Int) : Int := if p < q then q else p
section
variable {P : Program} {ops : Array Oper} {Q : Exit → Act → World → Prop}
theorem ok_max {dst : Option Tmp} {t : TypeId} {pos : String} {after : Array Edge} {gd : Option (Nat × Bool)} {ρ : Operand → Value} {w : World} {R : Value → World → Prop} {x y : Operand} {ts : Array TypeId} {k : IntKind} {p q : Int} (hx : ρ x = .int k p) (hy : ρ y = .int k q) (h : R (.int k (imax p q)) w) : OpOk P ⟨dst, .call ⟨.builtin .max, #[x, y], ts⟩, t, pos, after, gd⟩ ρ w R := by
  unfold OpOk
  simp [execOp, resolve, invoke, builtin, hx, hy, Builtin.max_, Builtin.max2]
  exact h
theorem wpl_max_is {dst : Option Tmp} {t : TypeId} {pos : String} {after : Array Edge} {gd : Option (Nat × Bool)} {x y : Operand} {ts : Array TypeId} {k : IntKind} {p q r : Int} {a : Act} {w : World} {rest : List Oper}
    (hw : Region.wanted ⟨dst, .call ⟨.builtin .max, #[x, y], ts⟩, t, pos, after, gd⟩ (yielded ops a.tmps) = true) (hr : imax p q = r) (hx : a.eval x = .int k p) (hy : a.eval y = .int k q) (h : wpList P ops Q rest (a.put dst (.int k r)) w) :
    wpList P ops Q (⟨dst, .call ⟨.builtin .max, #[x, y], ts⟩, t, pos, after, gd⟩ :: rest) a w := by
  subst hr
  exact wpl hw (ok_max hx hy h)
end
end Go.Proofs.YtbmjficiceiekaaDoor.Any
namespace Go.Proofs.YtbmjficiceiekaaDoor.Sc
open Go Go.RowKit Go.ChangeShapes Go.WideShapes Go.ChangeAt Go.Shelf
set_option maxRecDepth 100000

theorem lgCells_one (l : List Lg) : ∀ u ∈ lgCells l, u.oneCell' = true := by
  intro u hu
  obtain ⟨x, _, h⟩ := List.mem_flatMap.1 hu
  exact lg_one x u h
theorem clCells_one (l : List Cl) : ∀ u ∈ clCells l, u.oneCell' = true := by
  intro u hu
  obtain ⟨x, _, h⟩ := List.mem_flatMap.1 hu
  exact cl_one x u h
set_option maxHeartbeats 1000000 in
theorem cloneLg_any (l : List Lg) (v : Value) (w : World) (hs : Sl w 3 v (l.map Lg.row)) (hlen : l.length ≤ 1000000) : Calls Tryd.prog 32 #[v] w (RetRow w 37 3 l.length (lgCells l)) := by
  obtain ⟨i0, hi, hz, hsz, hby⟩ := info_parts infoLg
  have HI := Lib.hid (And.intro hi (And.intro hz (And.intro hsz hby)))
  clear hi hz hsz hby
  have hsrc := (hs.below (one_below w (.cells #[] 37)) (Nat.le_refl _)).src (by intro r hr; obtain ⟨d, _, rfl⟩ := List.mem_map.1 hr; rfl) (by decide)
  rw [List.length_map, show (l.map Lg.row).flatten = lgCells l from by simp [lgCells, List.flatMap]] at hsrc
  have HSRC := Lib.hid hsrc
  obtain ⟨a, c, rfl⟩ : ∃ a c, v = .slice a l.length c := by simpa using hs.shape
  have HL : Hid (0 + l.length ≤ maxLen ∧ (0 + l.length) * 24 ≤ 140737488355328) := Lib.hid (by simp only [maxLen]; omega)
  cases a with
  | none =>
    have h0 : l = [] ∧ c = 0 := by
      rcases hs with ⟨h, a, c', hv, hn⟩ | ⟨b, off, cap, hv, _⟩
      · simp only [Value.slice.injEq] at hv
        exact ⟨by simpa using h, by rw [hv.2.2]; exact hn hv.1.symm⟩
      · cases hv
    obtain ⟨rfl, rfl⟩ := h0
    clear hs hsrc HSRC HL
    have hq := fun w : World => Lib.run_eql_slice_nil (P := Tryd.prog) w
    go_enter Tryd.func32, Tryd.ntmps32
    go_wp2
    go_ret
    exact ⟨_, rfl, World.ownsRow_nil _ _ _ _, Below.refl _ _⟩
  | some ad =>
    clear hs hsrc hlen
    generalize l.length = n at *
    have hq : ∀ w : World, (binOp .eql 26 (.slice (some ad) n c) (.slice none 0 0)).run Tryd.prog w = .ok (.bool false) w := fun _ => rfl
    go_enter Tryd.func32, Tryd.ntmps32
    go_wp2_with (first
      | ((refine Any.wpl_append (size := 3) (bytes := 24) (n := 0) (m := n) (base := w.heap.size) (vx := .slice (some ⟨w.heap.size, 0, none⟩) 0 0) (vy := .slice (some ad) n c) ?_ ?_ ?_ Tryd.underlying26 HI.out.1 HI.out.2.1 HI.out.2.2.1 HI.out.2.2.2 ?_ (by decide) (own_empty (Nat.le_refl _)) HSRC.out (lgCells_one _) HL.out.1 HL.out.2 (by simp) ?_); rfl; rfl; rfl; rfl; intro v1 w1 hown1 hgrow1 hwho1)
      | fail)
    go_ret
    refine ⟨v1, rfl, by simpa using hown1, (one_below w (.cells #[] 37)).grown hgrow1 (by simp) (fun k hk => by have : w.heap.size = k := Option.some.inj hk; omega)⟩
set_option maxHeartbeats 1000000 in
theorem cloneCl_any (l : List Cl) (v : Value) (w : World) (hs : Sl w 4 v (l.map Cl.row)) (hlen : l.length ≤ 1000000) : Calls Tryd.prog 44 #[v] w (RetRow w 39 4 l.length (clCells l)) := by
  obtain ⟨i0, hi, hz, hsz, hby⟩ := info_parts infoCl
  have HI := Lib.hid (And.intro hi (And.intro hz (And.intro hsz hby)))
  clear hi hz hsz hby
  have hsrc := (hs.below (one_below w (.cells #[] 39)) (Nat.le_refl _)).src (by intro r hr; obtain ⟨d, _, rfl⟩ := List.mem_map.1 hr; rfl) (by decide)
  rw [List.length_map, show (l.map Cl.row).flatten = clCells l from by simp [clCells, List.flatMap]] at hsrc
  have HSRC := Lib.hid hsrc
  obtain ⟨a, c, rfl⟩ : ∃ a c, v = .slice a l.length c := by simpa using hs.shape
  have HL : Hid (0 + l.length ≤ maxLen ∧ (0 + l.length) * 40 ≤ 140737488355328) := Lib.hid (by simp only [maxLen]; omega)
  cases a with
  | none =>
    have h0 : l = [] ∧ c = 0 := by
      rcases hs with ⟨h, a, c', hv, hn⟩ | ⟨b, off, cap, hv, _⟩
      · simp only [Value.slice.injEq] at hv
        exact ⟨by simpa using h, by rw [hv.2.2]; exact hn hv.1.symm⟩
      · cases hv
    obtain ⟨rfl, rfl⟩ := h0
    clear hs hsrc HSRC HL
    have hq := fun w : World => Lib.run_eql_slice_nil (P := Tryd.prog) w
    go_enter Tryd.func44, Tryd.ntmps44
    go_wp2
    go_ret
    exact ⟨_, rfl, World.ownsRow_nil _ _ _ _, Below.refl _ _⟩
  | some ad =>
    clear hs hsrc hlen
    generalize l.length = n at *
    have hq : ∀ w : World, (binOp .eql 30 (.slice (some ad) n c) (.slice none 0 0)).run Tryd.prog w = .ok (.bool false) w := fun _ => rfl
    go_enter Tryd.func44, Tryd.ntmps44
    go_wp2_with (first
      | ((refine Any.wpl_append (size := 4) (bytes := 40) (n := 0) (m := n) (base := w.heap.size) (vx := .slice (some ⟨w.heap.size, 0, none⟩) 0 0) (vy := .slice (some ad) n c) ?_ ?_ ?_ Tryd.underlying30 HI.out.1 HI.out.2.1 HI.out.2.2.1 HI.out.2.2.2 ?_ (by decide) (own_empty (Nat.le_refl _)) HSRC.out (clCells_one _) HL.out.1 HL.out.2 (by simp) ?_); rfl; rfl; rfl; rfl; intro v1 w1 hown1 hgrow1 hwho1)
      | fail)
    go_ret
    refine ⟨v1, rfl, by simpa using hown1, (one_below w (.cells #[] 39)).grown hgrow1 (by simp) (fun k hk => by have : w.heap.size = k := Option.some.inj hk; omega)⟩
set_option maxHeartbeats 1000000 in
theorem mapClone_any (bm : Nat) (es : Mp.Ents) (w : World) (h : Mp.MapAt w bm es) : Calls Tryd.prog 30 #[.map (some bm)] w (fun e w' => e = .returned (.map (some w.heap.size)) ∧ Mp.MapAt w' w.heap.size es ∧ Below w.heap.size w w') := by
  obtain ⟨es0, clock, hb, rest⟩ := h
  have hq := Mp.run_eql_nilmap (P := Tryd.prog) Tryd.underlying56 w (some bm)
  have hx : ∀ w : World, w.heap[bm]? = some (.map es0 clock) → (Extern.MapsClone.clone #[.iface 56 (.map (some bm))]).run Tryd.prog w = .ok (.iface 56 (.map (some w.heap.size))) (w.alloc (.map es0 clock)) := by
    intro w hb
    have e : Extern.MapsClone.clone #[.iface 56 (.map (some bm))] = (getObj bm >>= fun o => match o with
      | .map entries clock => (newObj (.map entries clock) >>= fun n => pure (.iface 56 (.map (some n))))
      | _ => stuck "maps.clone: a map expected") := rfl
    rw [e]
    simp [run_getObj_map w bm es0 clock hb, Result.andThen]
  have HMB := Lib.hid hb
  have hr := hx w hb
  have ht : ∀ (n : Nat) (w : World), (Instr.typeAssert (.iface 56 (.map (some n))) 20 56 false).run Tryd.prog w = .ok (.map (some n)) w := fun n w => by kernel_rfl
  have HREST := Lib.hid rest
  clear hb rest
  go_enter Tryd.func30, Tryd.ntmps30
  go_wp2_with fail
  rw [run_callFunc_extern Tryd.func47 (by kernel_rfl) (by kernel_rfl) (by kernel_rfl) (e := Extern.MapsClone.clone) (by kernel_rfl), hr]
  simp only [Result.andThen]
  rw [Oper.upon_value]
  go_wp2_with fail
  go_ret
  exact ⟨rfl, ⟨es0, clock, heap_alloc_new _ _, HREST.out⟩, one_below _ _⟩
/-- A voyage that may not be counts as none. -/
def cleanV (v : Vm) : Vm := if mayV v.ship v.calls = true then v else ⟨⟨#[]⟩, .slice none 0 0, []⟩
def heldN (n : Int) : Int := if n < 0 then 0 else if 1048576 < n then 1048576 else n
def vmCells (l : List Vm) : List Value := l.flatMap Vm.row
theorem vmCells_flat (l : List Vm) : vmCells l = (l.map Vm.row).flatten := by rw [vmCells, List.flatMap_def]
theorem vm_rows (l : List Vm) : ∀ r ∈ l.map Vm.row, r.length = 2 := by
  intro r hr
  obtain ⟨b, -, rfl⟩ := List.mem_map.1 hr
  rfl
theorem infoVm : (Tryd.prog.info? 32).map (fun i => (i.zero, i.size, i.bytes)) = some (some (.agg #[.string ⟨#[]⟩, .slice none 0 0]), 2, 40) := by kernel_rfl
theorem vm_one (s : ByteArray) (a : Option Addr) (n c : Nat) : ∀ u ∈ (#[.string s, .slice a n c] : Array Value).toList, u.oneCell' = true := by
  intro u hu
  simp only [List.mem_cons, List.not_mem_nil, or_false] at hu
  rcases hu with rfl | rfl <;> rfl
theorem own_vms {w : World} {B n : Nat} {v : Value} {l : List Vm} (h : w.ownsRow B 32 2 v n (vmCells l)) (hn : n = l.length) : Sl w 2 v (l.map Vm.row) := by
  rw [vmCells_flat] at h
  exact own_sl h (by simpa using hn) (vm_rows l)
theorem keep_setRow (w : World) (g : Nat) (cs : Array Value) : Keep (fun b => b = g) w (w.setRow g cs) :=
  ⟨rfl, rfl, rfl, by simp [World.setRow], fun k _ hn => by
    have hkg : ¬ g = k := fun e => hn e.symm
    simp [World.setRow, Array.getElem?_modify, hkg]⟩
theorem heap_setRow {w : World} {g : Nat} {cs old : Array Value} {T : TypeId} (h : w.heap[g]? = some (.cells old T (0, 0))) : (w.setRow g cs).heap[g]? = some (.cells cs T (0, 0)) := by simp [World.setRow, Array.getElem?_modify, h]
def StartP (w : World) (l : List Vm) (fr : ByteArray) (ch : Int) (e : Ending) (w' : World) : Prop :=
  ∃ v, e = .returned (.agg (seaC v fr (heldN ch))) ∧ w'.ownsRow (w.heap.size + 2) 32 2 v l.length (vmCells (l.map cleanV)) ∧ Below w.heap.size w w'
theorem held_min (ch : Int) : Any.imin (Any.imax ch 0) 1048576 = heldN ch := by
  unfold Any.imin Any.imax heldN
  split <;> split <;> (try split) <;> omega
theorem startRes : Tryd.f28.results = #[.cell 6 52] := by kernel_rfl
set_option maxHeartbeats 4000000 in
theorem start_any (l : List Vm) (vl : Value) (fr : ByteArray) (ch : Int) (w : World) (hs : VsAt w vl l) (hl : l.length ≤ 4000) : Calls Tryd.prog 28 #[vl, .string fr, .int .i64 ch] w (StartP w l fr ch) := by
  obtain ⟨i0, hi, hz, hsz, hby⟩ := info_parts infoVm
  have HI := Lib.hid (And.intro hi (And.intro hz (And.intro hsz hby)))
  clear hi hz hsz hby
  obtain ⟨a, c, rfl⟩ : ∃ a c, vl = .slice a l.length c := by simpa using hs.1.shape
  have HS := Lib.hid hs
  have HHM := Lib.hid (held_min ch)
  obtain ⟨cm, hcm⟩ : ∃ cm, cm = Any.imax ch 0 := ⟨_, rfl⟩
  obtain ⟨cn, hcn⟩ : ∃ cn, cn = heldN ch := ⟨_, rfl⟩
  have HCN := Lib.hid hcn
  have HM1 : Hid (Any.imax ch 0 = cm) := Lib.hid hcm.symm
  have HM2 : Hid (Any.imin cm 1048576 = cn) := Lib.hid (by rw [hcm, hcn]; exact held_min ch)
  clear hs hcm hcn HHM
  go_enter Tryd.func28, Tryd.ntmps28
  go_wp2_with (first
    | ((with_reducible refine Any.wpl_max_is (k := .i64) ?_ HM1.out ?_ ?_ ?_); rfl; rfl; rfl)
    | ((with_reducible refine Any.wpl_min_is (k := .i64) ?_ HM2.out ?_ ?_ ?_); rfl; rfl; rfl)
    | fail)
  have HB0 : Hid (Below w.heap.size w ((w.alloc (.cells #[.slice none 0 0, .string ⟨#[]⟩, .int .i64 0] 52)).alloc (.cells #[.slice none 0 0, .string fr, .int .i64 cn] 52))) := Lib.hid ((one_below w _).alloc (by simp) _)
  have H00 : Hid (((w.alloc (.cells #[.slice none 0 0, .string ⟨#[]⟩, .int .i64 0] 52)).alloc (.cells #[.slice none 0 0, .string fr, .int .i64 cn] 52)).heap[w.heap.size]? = some (.cells #[.slice none 0 0, .string ⟨#[]⟩, .int .i64 0] 52 (0, 0))) := Lib.hid (blk (one_below _ _) (by simp) (heap_alloc_new w _))
  have H01 : Hid (((w.alloc (.cells #[.slice none 0 0, .string ⟨#[]⟩, .int .i64 0] 52)).alloc (.cells #[.slice none 0 0, .string fr, .int .i64 cn] 52)).heap[w.heap.size + 1]? = some (.cells #[.slice none 0 0, .string fr, .int .i64 cn] 52 (0, 0))) := Lib.hid (by
    simpa using heap_alloc_new (w.alloc (.cells #[.slice none 0 0, .string ⟨#[]⟩, .int .i64 0] 52)) (.cells #[.slice none 0 0, .string fr, .int .i64 cn] 52))
  generalize e7 : w.heap.size + 1 = b7 at *
  have HB7 : Hid (b7 = w.heap.size + 1) := Lib.hid e7.symm
  clear e7
  go_loopw [9, 17] (fun _ i wr => ∃ (k : Nat) (v : Value), k ≤ l.length ∧ i = .int .i64 k ∧ wr.heap[b7]? = some (.cells #[v, .string fr, .int .i64 cn] 52 (0, 0)) ∧ wr.ownsRow (w.heap.size + 2) 32 2 v k (vmCells ((l.take k).map cleanV)) ∧ wr.heap[w.heap.size]? = some (.cells #[.slice none 0 0, .string ⟨#[]⟩, .int .i64 0] 52 (0, 0)) ∧ Below w.heap.size w wr ∧ w.heap.size + 2 ≤ wr.heap.size) (fun _ i _ => l.length - (intOf i).toNat)
  case atStart => exact ⟨0, .slice none 0 0, Nat.zero_le _, rfl, H01.out, World.ownsRow_nil _ _ _ _, H00.out, HB0.out, by simp⟩
  case round =>
    obtain ⟨k, v, hk, rfl, h7, hown, h0, hbel, hsz⟩ := hrel
    have HQ := Lib.hid (And.intro h7 (And.intro hown (And.intro h0 (And.intro hbel hsz))))
    obtain ⟨va, vc, rfl⟩ : ∃ a c, v = .slice a k c := by
      have := (own_vms hown (by simp; omega)).shape
      simpa [Nat.min_eq_left hk] using this
    by_cases hlt : k < l.length
    · obtain ⟨b, off, rfl, hb, e0, e1, hcs⟩ := vs_at HS.out hlt
      have d0 := (hbel.cell (p := ⟨b, off + k * 2, none⟩) hb).trans e0
      have d1 := (hbel.cell (p := ⟨b, off + k * 2 + 1, none⟩) hb).trans e1
      have HKL := Lib.hid hlt
      have hki : ((k : Nat) : Int) < (l.length : Int) := by omega
      have HTK : Hid ((l.take (k + 1)).map cleanV = (l.take k).map cleanV ++ [cleanV l[k]]) := Lib.hid (by rw [List.take_succ_eq_append_getElem hlt, List.map_append]; rfl)
      have HCL : Hid (cleanV l[k] = if mayV l[k].ship l[k].calls = true then l[k] else ⟨⟨#[]⟩, .slice none 0 0, []⟩) := Lib.hid rfl
      generalize l[k] = x at *
      obtain ⟨sh, cval, cs⟩ := x
      simp only at d0 d1 hcs HCL e0 e1
      obtain ⟨ac, cc, rfl⟩ : ∃ a c, cval = .slice a cs.length c := by simpa using hcs.shape
      have HMY := Lib.hid (mayP_any sh (.slice ac cs.length cc) cs (wr.alloc (.cells #[.string sh, .slice ac cs.length cc] 32)) (hcs.below (hbel.alloc hbel.size _) (Nat.le_refl _)))
      have HXB := Lib.hid (heap_alloc_new wr (.cells #[.string sh, .slice ac cs.length cc] 32))
      have HBA := Lib.hid (hbel.alloc hbel.size (.cells #[.string sh, .slice ac cs.length cc] 32))
      have HOA := Lib.hid (ownsRow_below hown (one_below wr (.cells #[.string sh, .slice ac cs.length cc] 32)))
      have H7A := Lib.hid (blk (one_below wr (.cells #[.string sh, .slice ac cs.length cc] 32)) (lt_blk h7) h7)
      have H0A := Lib.hid (blk (one_below wr (.cells #[.string sh, .slice ac cs.length cc] 32)) (lt_blk h0) h0)
      have HL : Hid (k + 1 ≤ maxLen ∧ (k + 1) * 40 ≤ 140737488355328) := Lib.hid (by simp only [maxLen]; omega)
      have HBX : Hid (b7 < wr.heap.size ∧ w.heap.size < wr.heap.size) := Lib.hid (by have := HB7.out; omega)
      generalize mayV sh cs = r at *
      clear hb e0 e1 hcs h7 hown h0 hbel hsz hk
      have HOB : Hid (∀ b, (Value.slice va k vc).ownBlock = some b → b < wr.heap.size) := Lib.hid (fun b hb => (HQ.out.2.1.lt b hb).2)
      cases r
      · go_wp2_with (first
          | ((with_reducible refine HMY.out.mono ?_); rintro e w2 ⟨rfl, hb2⟩
             have HX2 := Lib.hid (blk hb2 (lt_blk HXB.out) HXB.out); have HO2 := Lib.hid (ownsRow_below HOA.out hb2); have H72 := Lib.hid (blk hb2 (lt_blk H7A.out) H7A.out); have H02 := Lib.hid (blk hb2 (lt_blk H0A.out) H0A.out)
             have HB2 := Lib.hid (HBA.out.trans (hb2.mono HBA.out.size)); have HL2 : Hid (k + 1 ≤ maxLen ∧ (k + 1) * 40 ≤ 140737488355328 ∧ w.heap.size + 2 ≤ w2.heap.size) := Lib.hid ⟨HL.out.1, HL.out.2, by have h1 := lt_blk HX2.out; have h2 := HBX.out; have h3 := HB7.out; omega⟩; have z7 := cell_blk H72.out 0; obtain ⟨x0, x1⟩ := And.intro (cell_blk HX2.out 0) (cell_blk HX2.out 1); clear hb2)
          | (refine wpList_store_row (P := Tryd.prog) rfl 32 (.tmp 9) (.tmp 24) rfl wr.heap.size #[.string ⟨#[]⟩, .slice none 0 0] rfl rfl _ _ HX2.out (by kernel_rfl) rfl (by simp [Value.oneCell']) ?_
             obtain ⟨w3, hw3⟩ : ∃ w3, w3 = w2.setRow wr.heap.size #[.string ⟨#[]⟩, .slice none 0 0] := ⟨_, rfl⟩
             rw [← hw3]
             have HK3 : Hid (Keep (fun b => b = wr.heap.size) w2 w3) := Lib.hid (by rw [hw3]; exact keep_setRow _ _ _)
             have HX3 : Hid (w3.heap[wr.heap.size]? = some (.cells #[.string ⟨#[]⟩, .slice none 0 0] 32 (0, 0))) := Lib.hid (by rw [hw3]; exact heap_setRow HX2.out)
             have HO3 := Lib.hid (ownsRow_keep HO2.out HK3.out (fun b hb e => by have := HOB.out b hb; omega)); have H73 := Lib.hid (HK3.out.blk H72.out (by have := HBX.out; omega)); have H03 := Lib.hid (HK3.out.blk H02.out (by have := HBX.out; omega))
             have HB3 := Lib.hid (HK3.out.behind HB2.out HB2.out.size (fun q hq e => by have := HBX.out; omega)); have HL3 : Hid (k + 1 ≤ maxLen ∧ (k + 1) * 40 ≤ 140737488355328 ∧ w.heap.size + 2 ≤ w3.heap.size) := Lib.hid ⟨HL.out.1, HL.out.2, Nat.le_trans HL2.out.2.2 HK3.out.size⟩
             clear hw3 x0 x1 z7
             have z7 := cell_blk H73.out 0; obtain ⟨x0, x1⟩ := And.intro (cell_blk HX3.out 0) (cell_blk HX3.out 1))
          | (((with_reducible refine Any.wpl_push ?_ ?_ ?_ Tryd.underlying22 HI.out.1 HI.out.2.1 HI.out.2.2.1 HI.out.2.2.2 ?_ (by decide) ?_ (vm_one _ _ _ _) (HO3.out) HL3.out.1 HL3.out.2.1 HL3.out.2.2 ?_); rfl; rfl; rfl; rfl; rfl; intro v5 w5 hown5 hgrow5 hwho5); obtain ⟨g5, c5, rfl⟩ := ownsRow_succ hown5; have HO5 := Lib.hid hown5; have HB5 := Lib.hid (HB3.out.grown hgrow5 HB3.out.size (fun q hq => by have := (HO3.out.lt q hq).1; omega)); have HK5 := Lib.hid (Keep.of_grown hgrow5); have HS5 := Lib.hid hgrow5.size
             have H75 := Lib.hid (HK5.out.blk H73.out (fun e => by have h1 := (HO3.out.lt _ e).1; have h2 := HB7.out; omega)); have H05 := Lib.hid (HK5.out.blk H03.out (fun e => by have h1 := (HO3.out.lt _ e).1; omega))
             have c75 := cell_blk H75.out 0; have f75 := free_blk H75.out 0; clear hown5 hgrow5 hwho5)
          | fail)
        go_roundw
        case rel =>
          have hs : Hid (Keep (fun b => some b7 = some b) w5 (w5.setCell ⟨b7, 0, none⟩ (.slice (some ⟨g5, 0, none⟩) (k + 1) c5))) := Lib.hid (Keep.of_grown (Ord.set_grown w5 b7 0 _))
          refine ⟨k + 1, .slice (some ⟨g5, 0, none⟩) (k + 1) c5, HKL.out, by go_num, by simp [World.setCell, Array.getElem?_modify, H75.out], ?_, hs.out.blk H05.out (fun e => by have := Option.some.inj e; have := HB7.out; omega), hs.out.behind HB5.out HB5.out.size (fun q hq e => by have := Option.some.inj e; have := HB7.out; omega), Nat.le_trans HL2.out.2.2 (Nat.le_trans HK3.out.size (Nat.le_trans HS5.out (by simp [World.setCell])))⟩
          have h1 := ownsRow_keep HO5.out hs.out (fun b hb e => by have h1 := (HO5.out.lt b hb).1; have h2 := Option.some.inj e; have h3 := HB7.out; omega)
          rw [HTK.out, HCL.out]
          simpa [vmCells, Vm.row, Vm.cells] using h1
        case measure => have := HKL.out; (simp [intOf]) <;> omega
      · go_wp2_with (first
          | ((with_reducible refine HMY.out.mono ?_); rintro e w2 ⟨rfl, hb2⟩
             have HX2 := Lib.hid (blk hb2 (lt_blk HXB.out) HXB.out); have HO2 := Lib.hid (ownsRow_below HOA.out hb2); have H72 := Lib.hid (blk hb2 (lt_blk H7A.out) H7A.out); have H02 := Lib.hid (blk hb2 (lt_blk H0A.out) H0A.out)
             have HB2 := Lib.hid (HBA.out.trans (hb2.mono HBA.out.size)); have HL2 : Hid (k + 1 ≤ maxLen ∧ (k + 1) * 40 ≤ 140737488355328 ∧ w.heap.size + 2 ≤ w2.heap.size) := Lib.hid ⟨HL.out.1, HL.out.2, by have h1 := lt_blk HX2.out; have h2 := HBX.out; have h3 := HB7.out; omega⟩; have z7 := cell_blk H72.out 0; obtain ⟨x0, x1⟩ := And.intro (cell_blk HX2.out 0) (cell_blk HX2.out 1); clear hb2)
          | (((with_reducible refine Any.wpl_push ?_ ?_ ?_ Tryd.underlying22 HI.out.1 HI.out.2.1 HI.out.2.2.1 HI.out.2.2.2 ?_ (by decide) ?_ (vm_one _ _ _ _) (HO2.out) HL2.out.1 HL2.out.2.1 HL2.out.2.2 ?_); rfl; rfl; rfl; rfl; rfl; intro v5 w5 hown5 hgrow5 hwho5); obtain ⟨g5, c5, rfl⟩ := ownsRow_succ hown5; have HO5 := Lib.hid hown5; have HB5 := Lib.hid (HB2.out.grown hgrow5 HB2.out.size (fun q hq => by have := (HO2.out.lt q hq).1; omega)); have HK5 := Lib.hid (Keep.of_grown hgrow5); have HS5 := Lib.hid hgrow5.size
             have H75 := Lib.hid (HK5.out.blk H72.out (fun e => by have h1 := (HO2.out.lt _ e).1; have h2 := HB7.out; omega)); have H05 := Lib.hid (HK5.out.blk H02.out (fun e => by have h1 := (HO2.out.lt _ e).1; omega))
             have c75 := cell_blk H75.out 0; have f75 := free_blk H75.out 0; clear hown5 hgrow5 hwho5)
          | fail)
        go_roundw
        case rel =>
          have hs : Hid (Keep (fun b => some b7 = some b) w5 (w5.setCell ⟨b7, 0, none⟩ (.slice (some ⟨g5, 0, none⟩) (k + 1) c5))) := Lib.hid (Keep.of_grown (Ord.set_grown w5 b7 0 _))
          refine ⟨k + 1, .slice (some ⟨g5, 0, none⟩) (k + 1) c5, HKL.out, by go_num, by simp [World.setCell, Array.getElem?_modify, H75.out], ?_, hs.out.blk H05.out (fun e => by have := Option.some.inj e; have := HB7.out; omega), hs.out.behind HB5.out HB5.out.size (fun q hq e => by have := Option.some.inj e; have := HB7.out; omega), Nat.le_trans HL2.out.2.2 (Nat.le_trans HS5.out (by simp [World.setCell]))⟩
          have h1 := ownsRow_keep HO5.out hs.out (fun b hb e => by have h1 := (HO5.out.lt b hb).1; have h2 := Option.some.inj e; have h3 := HB7.out; omega)
          rw [HTK.out, HCL.out]
          simpa [vmCells, Vm.row, Vm.cells] using h1
        case measure => have := HKL.out; (simp [intOf]) <;> omega
    · have h2 := cell_blk HQ.out.1 0
      have h3 := cell_blk HQ.out.1 1
      have h4 := cell_blk HQ.out.1 2
      have g0 := free_blk HQ.out.2.2.1
      have g1 := cell_blk HQ.out.2.2.1 0
      have hkl : k = l.length := by omega
      have HTK : Hid ((l.take k).map cleanV = l.map cleanV) := Lib.hid (by rw [List.take_of_length_le (by omega)])
      have HKL := Lib.hid hkl
      clear hkl h7 hown h0 hbel hsz hk
      go_wp2_with (first
        | (refine wpList_store_row (P := Tryd.prog) rfl 52 (.tmp 6) (.tmp 32) rfl w.heap.size #[.slice va k vc, .string fr, .int .i64 cn] rfl rfl _ _ HQ.out.2.2.1 (by kernel_rfl) rfl (by simp [Value.oneCell']) ?_)
        | fail)
      have HK6 : Hid (Keep (fun b => b = w.heap.size) wr (wr.setRow w.heap.size #[.slice va k vc, .string fr, .int .i64 cn])) := Lib.hid (keep_setRow _ _ _)
      have HB6 : Hid ((wr.setRow w.heap.size #[.slice va k vc, .string fr, .int .i64 cn]).heap[w.heap.size]? = some (.cells #[.slice va k vc, .string fr, .int .i64 cn] 52 (0, 0))) := Lib.hid (heap_setRow HQ.out.2.2.1)
      ((try simp only [Exit.inBlock, Exit.then]); refine bodyPost_ret (results_cell_row startRes _ _ _ _ _ _ _ rfl HB6.out Tryd.underlying52 rfl (by kernel_rfl)) rfl ?_)
      refine ⟨_, by rw [HCN.out]; rfl, ?_, HK6.out.behind HQ.out.2.2.2.1 HQ.out.2.2.2.1.size (fun q hq e => by omega)⟩
      have h5 := ownsRow_keep HQ.out.2.1 HK6.out (fun b hb e => by have := (HQ.out.2.1.lt b hb).1; omega)
      rw [HTK.out, HKL.out] at h5
      rw [HKL.out]
      exact h5
end Go.Proofs.YtbmjficiceiekaaDoor.Sc
