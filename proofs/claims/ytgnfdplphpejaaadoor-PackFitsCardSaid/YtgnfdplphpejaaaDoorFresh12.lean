/- The kind of a new box: by the program. -/
import Derived.Test.YtgnfdplphpejaaaDoorPkA12
import Derived.Test.YtgnfdplphpejaaaDoorConc12
import Derived.Test.YtgnfdplphpejaaaDoorFillR
namespace Go.Proofs.YtgnfdplphpejaaaDoor.Sc
open Go Go.RowKit Go.ChangeShapes Go.WideShapes Go.ChangeAt
set_option maxRecDepth 100000

def Bx.lotsV : TypeId := 23
/-- A row of two rows: one that lay there, and one of a lot, new. -/
def pairS (vl : Value) (cs : Array Value) (j : Nat) : Ord.Spec :=
  ⟨fun _ v O w => ∃ b s, v = .slice (some ⟨b, 0, none⟩) 2 2 ∧ w.heap[b]? = some (.cells #[vl, .slice (some ⟨s, 0, none⟩) 1 1] 23 (0, 0)) ∧ w.heap[s]? = some (.cells cs 35 (0, 0)) ∧ ∀ k, O k ↔ (k = b ∨ k = s), [j], fun _ => False⟩
theorem lasts_pairS {F : Nat → Prop} {w0 : World} (vl : Value) (cs : Array Value) (j : Nat) : Ord.Lasts F (pairS vl cs j) w0 :=
  ⟨fun _ _ _ _ h b hb => by
    obtain ⟨g, s, _, h2, h3, h4⟩ := h
    rcases (h4 b).1 hb with rfl | rfl
    · exact lt_blk h2
    · exact lt_blk h3, fun _ _ _ _ _ h _ _ _ hs => by
    obtain ⟨g, s, h1, h2, h3, h4⟩ := h
    exact ⟨g, s, h1, (hs g ((h4 g).2 (.inl rfl))).trans h2, (hs s ((h4 s).2 (.inr rfl))).trans h3, h4⟩⟩
theorem ok_pairS {S : Nat → Ord.Spec} {Os : Nat → Nat → Prop} {dst : Option Tmp} {t : TypeId} {pos : String} {after : Array Edge} {gd : Option (Nat × Bool)} {ρ : Operand → Value} {w : World} {i j : Nat} {al : Option Addr} {n cl : Nat} {cs : Array Value} {x y : Operand}
    (hx : ρ x = .slice al n cl) (hy : ∃ ρ', (Ord.one 35 cs).know ρ' (ρ y) (Os j) w) (hS : S i = pairS (.slice al n cl) cs j) :
    Any.OpOk Tryd.prog ⟨dst, .buildSlice 86 2 #[(0, x), (1, y)], t, pos, after, gd⟩ ρ w (Ord.Post S Os i ρ w) := by
  obtain ⟨_, s, hv, hs, hO⟩ := hy
  have hlt := lt_blk hs
  have hpost : Ord.Post S Os i ρ w (.slice (some ⟨w.heap.size, 0, none⟩) 2 2) (w.alloc (.cells #[.slice al n cl, .slice (some ⟨s, 0, none⟩) 1 1] 23)) := by
    refine ⟨fun k => k = w.heap.size ∨ k = s, ?_, ⟨rfl, rfl, rfl⟩, by simp, fun b hb _ _ => (one_below w _).block b hb, fun b hb => ?_⟩
    · rw [hS]
      exact ⟨_, s, rfl, heap_alloc_new _ _, blk (one_below w _) hlt hs, fun _ => Iff.rfl⟩
    · rcases hb with rfl | rfl
      · exact .inr (.inl (Nat.le_refl _))
      · exact .inl ⟨j, by rw [hS]; exact List.mem_singleton.2 rfl, (hO _).2 rfl⟩
  go_simp
set_option maxHeartbeats 4000000 in
theorem fits_any (t : List Gd) (m : ByteArray) (k : Int) (L : List Lt) (x : Lt) (bt bm : Nat) (vl : Value) (w : World) (hap : ApT w) (hs : Sl w 2 vl (L.map Lt.row)) (hl : L.length ≤ 3000) (htab : Tab w bt bm t) (hn : (codes t).Nodup) (hok : ∀ g ∈ t, gdOk g = true) :
    Calls Tryd.prog 9 #[.pointer (some ⟨bt, 0, none⟩), .agg #[.string m, .int .i64 k, vl], .agg #[.string x.good, .int .i64 x.cnt]] w (RetB w (goP t k (L ++ [x]))) := by
  obtain ⟨al, cl, rfl⟩ : ∃ a c, vl = .slice a L.length c := by simpa using hs.shape
  obtain ⟨xn, xc⟩ := x
  obtain ⟨w5, hw5⟩ : ∃ w5, w5 = (w.alloc (.cells #[.string m, .int .i64 k, .slice al L.length cl] 33)).alloc (.cells #[.string xn, .int .i64 xc] 35) := ⟨_, rfl⟩
  obtain ⟨b4, hb4⟩ : ∃ b, b = w.heap.size := ⟨_, rfl⟩
  obtain ⟨b5, hb5⟩ : ∃ b, b = w.heap.size + 1 := ⟨_, rfl⟩
  have h4 : w5.heap[b4]? = some (.cells #[.string m, .int .i64 k, .slice al L.length cl] 33 (0, 0)) := by
    rw [hw5, hb4]
    exact blk (one_below _ _) (by simp) (heap_alloc_new w _)
  have h5 : w5.heap[b5]? = some (.cells #[.string xn, .int .i64 xc] 35 (0, 0)) := by
    rw [hw5, hb5]
    have := heap_alloc_new (w.alloc (.cells #[.string m, .int .i64 k, .slice al L.length cl] 33)) (.cells #[.string xn, .int .i64 xc] 35)
    simpa using this
  have HB5 : Hid (Below w.heap.size w w5) := Lib.hid (by rw [hw5]; exact (one_below w _).trans ((one_below _ _).mono (by simp)))
  have HC : Hid (∀ W, Below w5.heap.size w5 W → W.cell? ⟨b4, 1, none⟩ = some (.int .i64 k) ∧ W.cell? ⟨b4, 2, none⟩ = some (.slice al L.length cl) ∧ W.cell? ⟨b5, 0, none⟩ = some (.string xn) ∧ W.cell? ⟨b5, 1, none⟩ = some (.int .i64 xc)) := Lib.hid (fun W hW => by
    have k4 := blk hW (lt_blk h4) h4
    have k5 := blk hW (lt_blk h5) h5
    exact ⟨cell_blk k4 1, cell_blk k4 2, cell_blk k5 0, cell_blk k5 1⟩)
  have HCC : Hid (∀ W, Below w5.heap.size w5 W → ∀ b s, W.heap[b]? = some (.cells #[.slice al L.length cl, .slice (some ⟨s, 0, none⟩) 1 1] 23 (0, 0)) → W.heap[s]? = some (.cells #[.string xn, .int .i64 xc] 35 (0, 0)) →
      Calls Tryd.prog 23 #[.slice (some ⟨b, 0, none⟩) 2 2] W (RetRow W 35 2 (L.length + 1) (ltCells L ++ [.string xn, .int .i64 xc]))) := Lib.hid (fun W hW b s hb hs' => by
    have hsl : Sl W 2 (.slice al L.length cl) (L.map Lt.row) := (hs.below HB5.out (Nat.le_refl _)).below hW (by exact Nat.le_refl _)
    have hnp : NpAt W (.slice (some ⟨b, 0, none⟩) 2 2) [(.slice al L.length cl, L), (.slice (some ⟨s, 0, none⟩) 1 1, [⟨xn, xc⟩])] := by
      refine ⟨?_, fun q hq => ?_⟩
      · refine .inr ⟨b, 0, 2, rfl, lt_blk hb, by simp, by decide, fun i r hr j u hu => ?_⟩
        rw [cell_blk hb]
        match i, hr with
        | 0, hr => obtain rfl := (Option.some.inj hr).symm; match j, hu with
          | 0, hu => exact hu
        | 1, hr => obtain rfl := (Option.some.inj hr).symm; match j, hu with
          | 0, hu => exact hu
      · simp only [List.mem_cons, List.not_mem_nil, or_false] at hq
        rcases hq with rfl | rfl
        · exact hsl
        · refine .inr ⟨s, 0, 1, rfl, lt_blk hs', by simp, by decide, fun i r hr j u hu => ?_⟩
          rw [cell_blk hs']
          match i, hr with
          | 0, hr => obtain rfl := (Option.some.inj hr).symm; match j, hu with
            | 0, hu => exact hu
            | 1, hu => exact hu
    have := concat_any _ _ W hnp (by simp [npTot, npSnd]; omega)
    have e1 : npTot [(.slice al L.length cl, L), ((.slice (some ⟨s, 0, none⟩) 1 1 : Value), [(⟨xn, xc⟩ : Lt)])] = L.length + 1 := by simp [npTot, npSnd]
    have e2 : (npSnd [(.slice al L.length cl, L), ((.slice (some ⟨s, 0, none⟩) 1 1 : Value), [(⟨xn, xc⟩ : Lt)])]).flatten = L ++ [⟨xn, xc⟩] := by simp [npSnd]
    rw [e1, e2, ltCells_append] at this
    exact this)
  obtain ⟨r, hr⟩ : ∃ r, r = goP t k (L ++ [⟨xn, xc⟩]) := ⟨_, rfl⟩
  have HQ := Lib.hid hr.symm
  have HGO : Hid (∀ W, Below w5.heap.size w5 W → ∀ v, W.ownsRow w5.heap.size 35 2 v (L.length + 1) (ltCells L ++ [.string xn, .int .i64 xc]) → Calls Tryd.prog 22 #[.pointer (some ⟨bt, 0, none⟩), .int .i64 k, v] W (RetB W r)) := Lib.hid (fun W hW v hv => by
    rw [hr]
    have hB := HB5.out.trans (hW.mono HB5.out.size)
    refine goes_any t k (L ++ [⟨xn, xc⟩]) bt bm v W (hap.below hB) ?_ (by simp; omega) (htab.below hB) hn hok
    rw [show ltCells L ++ [.string xn, .int .i64 xc] = ltCells (L ++ [⟨xn, xc⟩]) by rw [ltCells_append]; rfl] at hv
    exact own_lots hv (by simp))
  clear hap hs hl htab hn hok hr h4 h5
  go_enter Tryd.func9, Tryd.ntmps9
  go_wp2_with fail
  rw [← hb5, ← hb4, ← hw5]
  clear hb4 hb5 hw5
  refine Ord.region_lit (fun
    | 0 => Ord.val (.pointer (some ⟨bt, 0, none⟩))
    | 1 => Ord.val (.pointer (some ⟨b4, 1, none⟩))
    | 2 => Ord.val (.int .i64 k)
    | 3 => Ord.val (.pointer (some ⟨b4, 2, none⟩))
    | 4 => Ord.val (.slice al L.length cl)
    | 5 => Ord.val (.agg #[.string xn, .int .i64 xc])
    | 6 => Ord.one 35 #[.string xn, .int .i64 xc]
    | 7 => pairS (.slice al L.length cl) #[.string xn, .int .i64 xc] 6
    | 8 => Ord.own w5.heap.size 35 2 (L.length + 1) (ltCells L ++ [.string xn, .int .i64 xc]) []
    | 9 => Ord.val (.bool r)
    | 10 => Ord.val (.bool r)
    | _ => Ord.idle) (fun _ => False) (by kernel_rfl) (by kernel_rfl) (by kernel_rfl) ?_ ?_ ?_ ?_
  · intro i _
    match i with
    | 0 => exact Ord.lasts_val _
    | 1 => exact Ord.lasts_val _
    | 2 => exact Ord.lasts_val _
    | 3 => exact Ord.lasts_val _
    | 4 => exact Ord.lasts_val _
    | 5 => exact Ord.lasts_val _
    | 6 => exact Ord.lasts_one _ _
    | 7 => exact lasts_pairS _ _ _
    | 8 => exact Ord.lasts_own _ _ _ _ _ _
    | 9 => exact Ord.lasts_val _
    | 10 => exact Ord.lasts_val _
    | n + 11 => exact Ord.lasts_idle
  · refine ⟨fun k b _ hh => ?_, fun k b _ hh => ?_, fun k k' b _ _ hne h1 h2 => ?_⟩
    · match k, hh with
      | 0, hh => exact hh.elim
      | 1, hh => exact hh.elim
      | 2, hh => exact hh.elim
      | 3, hh => exact hh.elim
      | 4, hh => exact hh.elim
      | 5, hh => exact hh.elim
      | 6, hh => exact hh.elim
      | 7, hh => exact hh.elim
      | 8, hh => exact hh.elim
      | 9, hh => exact hh.elim
      | 10, hh => exact hh.elim
      | m + 11, hh => exact hh.elim
    · match k, hh with
      | 0, hh => exact hh.elim
      | 1, hh => exact hh.elim
      | 2, hh => exact hh.elim
      | 3, hh => exact hh.elim
      | 4, hh => exact hh.elim
      | 5, hh => exact hh.elim
      | 6, hh => exact hh.elim
      | 7, hh => exact hh.elim
      | 8, hh => exact hh.elim
      | 9, hh => exact hh.elim
      | 10, hh => exact hh.elim
      | m + 11, hh => exact hh.elim
    · match k, h1 with
      | 0, hh => exact hh.elim
      | 1, hh => exact hh.elim
      | 2, hh => exact hh.elim
      | 3, hh => exact hh.elim
      | 4, hh => exact hh.elim
      | 5, hh => exact hh.elim
      | 6, hh => exact hh.elim
      | 7, hh => exact hh.elim
      | 8, hh => exact hh.elim
      | 9, hh => exact hh.elim
      | 10, hh => exact hh.elim
      | m + 11, hh => exact hh.elim
  · refine ⟨?_, ?_, ?_, ?_, ?_, ?_, ?_, ?_, ?_, ?_, ?_, trivial⟩
    · refine Ord.owes_plain rfl fun ρ Os wo hs' hb hc' => ?_
      have h0 : ρ (.tmp 0) = .pointer (some ⟨bt, 0, none⟩) := hs'.old' 0 (by kernel_rfl)
      exact Any.ok_move (Ord.post_val rfl h0)
    · refine Ord.owes_plain rfl fun ρ Os wo hs' hb hc' => ?_
      have h4 : ρ (.tmp 4) = .pointer (some ⟨b4, 0, none⟩) := hs'.old' 4 (by kernel_rfl)
      go_simp
      exact Ord.post_val rfl rfl
    · refine Ord.owes_plain rfl fun ρ Os wo hs' hb hc' => ?_
      have h8 : ρ (.tmp 8) = .pointer (some ⟨b4, 1, none⟩) := hs'.val' 8 1 (by kernel_rfl) rfl
      have c0 := (HC.out wo (hb.undrew.below (Nat.le_refl _) (fun _ _ h => h))).1
      go_simp
      exact Ord.post_val rfl rfl
    · refine Ord.owes_plain rfl fun ρ Os wo hs' hb hc' => ?_
      have h4 : ρ (.tmp 4) = .pointer (some ⟨b4, 0, none⟩) := hs'.old' 4 (by kernel_rfl)
      go_simp
      exact Ord.post_val rfl rfl
    · refine Ord.owes_plain rfl fun ρ Os wo hs' hb hc' => ?_
      have h10 : ρ (.tmp 10) = .pointer (some ⟨b4, 2, none⟩) := hs'.val' 10 3 (by kernel_rfl) rfl
      have c0 := (HC.out wo (hb.undrew.below (Nat.le_refl _) (fun _ _ h => h))).2.1
      go_simp
      exact Ord.post_val rfl rfl
    · refine Ord.owes_plain rfl fun ρ Os wo hs' hb hc' => ?_
      have h5 : ρ (.tmp 5) = .pointer (some ⟨b5, 0, none⟩) := hs'.old' 5 (by kernel_rfl)
      obtain ⟨c0, c1⟩ := (HC.out wo (hb.undrew.below (Nat.le_refl _) (fun _ _ h => h))).2.2
      go_simp
      exact Ord.post_val rfl rfl
    · refine Ord.owes_plain rfl fun ρ Os wo hs' hb hc' => ?_
      have h12 : ρ (.tmp 12) = .agg #[.string xn, .int .i64 xc] := hs'.val' 12 5 (by kernel_rfl) rfl
      go_simp
      exact Ord.post_one rfl
    · refine Ord.owes_plain rfl fun ρ Os wo hs' hb hc' => ?_
      have h11 : ρ (.tmp 11) = .slice al L.length cl := hs'.val' 11 4 (by kernel_rfl) rfl
      exact ok_pairS h11 (hs'.new' 13 6 (by kernel_rfl)) rfl
    · refine Ord.owes_plain rfl fun ρ Os wo hs' hb hc' => ?_
      have hf := hs'.func 23
      obtain ⟨_, b, s, hv, hb1, hs1, -⟩ := hs'.new' 14 7 (by kernel_rfl)
      have hcc := HCC.out wo (hb.undrew.below (Nat.le_refl _) (fun _ _ h => h)) b s hb1 hs1
      go_simp
      exact hcc.mono fun e w' ⟨v, he, ho, hbb⟩ => ⟨v, he, Ord.post_new ⟨ownsRow_base ho hb.size, fun _ => Iff.rfl⟩ hbb fun b h => (ho.lt b h).1⟩
    · refine Ord.owes_plain rfl fun ρ Os wo hs' hb hc' => ?_
      have h7 : ρ (.tmp 7) = .pointer (some ⟨bt, 0, none⟩) := hs'.val' 7 0 (by kernel_rfl) rfl
      have h9 : ρ (.tmp 9) = .int .i64 k := hs'.val' 9 2 (by kernel_rfl) rfl
      have hf := hs'.func 22
      obtain ⟨_, ho, -⟩ := hs'.new' 15 8 (by kernel_rfl)
      go_simp
      exact (HGO.out wo (hb.undrew.below (Nat.le_refl _) (fun _ _ h => h)) _ ho).mono fun e w' ⟨he, hb'⟩ => ⟨_, he, Ord.post_vals rfl rfl hb'⟩
    · refine Ord.owes_plain rfl fun ρ Os wo hs' hb hc' => ?_
      have h16 : ρ (.tmp 16) = .bool r := hs'.val' 16 9 (by kernel_rfl) rfl
      exact Any.ok_assign (Ord.post_val rfl h16)
  intro vals Os ρs w6 hk hkn hln hap hbd
  have h10 : vals 10 = .bool r := (hkn 10 (by kernel_rfl)).1
  have HBZ := Lib.hid (hk.below (Nat.le_refl _) (fun _ _ h => h))
  clear hk hkn hln hap hbd
  simp only [Any.putAll]
  go_frame
  simp only [Nat.zero_add, Nat.reduceAdd]
  rw [h10]
  clear h10
  go_wp2_with fail
  go_ret
  exact retB HQ.out.symm (HB5.out.trans (HBZ.out.mono HB5.out.size))
end Go.Proofs.YtgnfdplphpejaaaDoor.Sc
namespace Go.Proofs.YtgnfdplphpejaaaDoor.Sc
open Go Go.RowKit Go.ChangeShapes Go.WideShapes Go.ChangeAt
set_option maxRecDepth 100000

def freshV (t : List Gd) (g : ByteArray) (c : Int) : Value := .tuple #[.int .i64 ((freshK t g c).getD 0), .bool (freshK t g c).isSome]
set_option maxHeartbeats 8000000 in
theorem fresh_any (t : List Gd) (g : ByteArray) (c : Int) (bt bm : Nat) (w : World) (hap : ApT w) (htab : Tab w bt bm t) (hn : (codes t).Nodup) (hok : ∀ g ∈ t, gdOk g = true) :
    Calls Tryd.prog 44 #[.pointer (some ⟨bt, 0, none⟩), .agg #[.string g, .int .i64 c]] w (Ret w (freshV t g c)) := by
  have HF := Lib.hid (fun (k c : Int) W (hW : Below w.heap.size w W) => (by
    have := fits_any t ⟨#[]⟩ k [] ⟨g, c⟩ bt bm (.slice none 0 0) W (hap.below hW) (.inl ⟨rfl, none, 0, rfl, fun _ => rfl⟩) (by simp) (htab.below hW) hn hok
    simpa using this : Calls Tryd.prog 9 #[.pointer (some ⟨bt, 0, none⟩), .agg #[.string ⟨#[]⟩, .int .i64 k, .slice none 0 0], .agg #[.string g, .int .i64 c]] W (RetB W (goP t k [⟨g, c⟩]))))
  have HK : Hid (freshK t g c = if goP t 0 [⟨g, c⟩] = true then some 0 else if goP t 1 [⟨g, 1⟩] = true then some 1 else if goP t 0 [⟨g, 1⟩] = true then some 0 else none) := Lib.hid rfl
  have HF1 := Lib.hid (fun W hW => HF.out 0 c W hW)
  have HF2 := Lib.hid (fun W hW => HF.out 1 1 W hW)
  have HF3 := Lib.hid (fun W hW => HF.out 0 1 W hW)
  generalize goP t 0 [⟨g, c⟩] = r1 at *
  generalize goP t 1 [⟨g, 1⟩] = r2 at *
  generalize goP t 0 [⟨g, 1⟩] = r3 at *
  obtain ⟨f, hf⟩ : ∃ f, f = freshK t g c := ⟨_, rfl⟩
  rw [← hf] at HK
  have HV : Hid (freshV t g c = .tuple #[.int .i64 (f.getD 0), .bool f.isSome]) := Lib.hid (by rw [hf]; rfl)
  clear hap htab hn hok HF hf
  have HB0 : Hid (Below w.heap.size w ((w.alloc (.cells #[.string g, .int .i64 c] 35)).alloc (.cells #[.string g, .int .i64 1] 35))) := Lib.hid ((one_below _ _).trans ((one_below _ _).mono (by simp)))
  have HX6 : Hid (((w.alloc (.cells #[.string g, .int .i64 c] 35)).alloc (.cells #[.string g, .int .i64 1] 35)).heap[w.heap.size + 1]? = some (.cells #[.string g, .int .i64 1] 35 (0, 0))) := Lib.hid (by
    have := heap_alloc_new (w.alloc (.cells #[.string g, .int .i64 c] 35)) (.cells #[.string g, .int .i64 1] 35)
    simpa using this)
  cases r1
  rotate_left
  · skip
    have HQ : Hid (f = some 0) := Lib.hid HK.out
    clear HK
    go_enter Tryd.func44, Tryd.ntmps44
    go_wp2_with (first
      | ((with_reducible refine (HF1.out _ HB0.out).mono ?_); rintro e w2 ⟨rfl, hb2⟩; have HB2 := Lib.hid (HB0.out.trans (hb2.mono HB0.out.size)); have HX6 := Lib.hid (blk hb2 (lt_blk HX6.out) HX6.out); have y0 := cell_blk HX6.out 0; have y1 := cell_blk HX6.out 1; clear hb2)
      | fail)
    go_ret2
    exact ⟨by rw [HV.out, HQ.out]; rfl, HB2.out⟩
  cases r2
  rotate_left
  · skip
    have HQ : Hid (f = some 1) := Lib.hid HK.out
    clear HK
    go_enter Tryd.func44, Tryd.ntmps44
    go_wp2_with (first
      | ((with_reducible refine (HF1.out _ HB0.out).mono ?_); rintro e w2 ⟨rfl, hb2⟩; have HB2 := Lib.hid (HB0.out.trans (hb2.mono HB0.out.size)); have HX6 := Lib.hid (blk hb2 (lt_blk HX6.out) HX6.out); have y0 := cell_blk HX6.out 0; have y1 := cell_blk HX6.out 1; clear hb2)
      | ((with_reducible refine (HF2.out _ HB2.out).mono ?_); rintro e w3 ⟨rfl, hb3⟩; have HB3 := Lib.hid (HB2.out.trans (hb3.mono HB2.out.size)); have HX6 := Lib.hid (blk hb3 (lt_blk HX6.out) HX6.out); clear y0 y1; have y0 := cell_blk HX6.out 0; have y1 := cell_blk HX6.out 1; clear hb3)
      | fail)
    go_ret2
    exact ⟨by rw [HV.out, HQ.out]; rfl, HB3.out⟩
  cases r3
  rotate_left
  · skip
    have HQ : Hid (f = some 0) := Lib.hid HK.out
    clear HK
    go_enter Tryd.func44, Tryd.ntmps44
    go_wp2_with (first
      | ((with_reducible refine (HF1.out _ HB0.out).mono ?_); rintro e w2 ⟨rfl, hb2⟩; have HB2 := Lib.hid (HB0.out.trans (hb2.mono HB0.out.size)); have HX6 := Lib.hid (blk hb2 (lt_blk HX6.out) HX6.out); have y0 := cell_blk HX6.out 0; have y1 := cell_blk HX6.out 1; clear hb2)
      | ((with_reducible refine (HF2.out _ HB2.out).mono ?_); rintro e w3 ⟨rfl, hb3⟩; have HB3 := Lib.hid (HB2.out.trans (hb3.mono HB2.out.size)); have HX6 := Lib.hid (blk hb3 (lt_blk HX6.out) HX6.out); clear y0 y1; have y0 := cell_blk HX6.out 0; have y1 := cell_blk HX6.out 1; clear hb3)
      | ((with_reducible refine (HF3.out _ HB3.out).mono ?_); rintro e w4 ⟨rfl, hb4⟩; have HB4 := Lib.hid (HB3.out.trans (hb4.mono HB3.out.size)); clear hb4)
      | fail)
    go_ret2
    exact ⟨by rw [HV.out, HQ.out]; rfl, HB4.out⟩
  · skip
    have HQ : Hid (f = none) := Lib.hid HK.out
    clear HK
    go_enter Tryd.func44, Tryd.ntmps44
    go_wp2_with (first
      | ((with_reducible refine (HF1.out _ HB0.out).mono ?_); rintro e w2 ⟨rfl, hb2⟩; have HB2 := Lib.hid (HB0.out.trans (hb2.mono HB0.out.size)); have HX6 := Lib.hid (blk hb2 (lt_blk HX6.out) HX6.out); have y0 := cell_blk HX6.out 0; have y1 := cell_blk HX6.out 1; clear hb2)
      | ((with_reducible refine (HF2.out _ HB2.out).mono ?_); rintro e w3 ⟨rfl, hb3⟩; have HB3 := Lib.hid (HB2.out.trans (hb3.mono HB2.out.size)); have HX6 := Lib.hid (blk hb3 (lt_blk HX6.out) HX6.out); clear y0 y1; have y0 := cell_blk HX6.out 0; have y1 := cell_blk HX6.out 1; clear hb3)
      | ((with_reducible refine (HF3.out _ HB3.out).mono ?_); rintro e w4 ⟨rfl, hb4⟩; have HB4 := Lib.hid (HB3.out.trans (hb4.mono HB3.out.size)); clear hb4)
      | fail)
    go_ret2
    exact ⟨by rw [HV.out, HQ.out]; rfl, HB4.out⟩
end Go.Proofs.YtgnfdplphpejaaaDoor.Sc
