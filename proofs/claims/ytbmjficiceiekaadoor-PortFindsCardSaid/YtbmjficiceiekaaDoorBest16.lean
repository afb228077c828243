/- port.Best. -/
import Derived.Test.YtbmjficiceiekaaDoorBestPl16
import Derived.Test.YtbmjficiceiekaaDoorMdel
import Derived.OwnWalk
import Derived.Deep.CutRange
namespace Go.Proofs.YtbmjficiceiekaaDoor.Mp
open Go Go.RowKit
section
variable {P : Program} {ops : Array Oper} {Q : Exit → Act → World → Prop} {dst : Option Tmp} {t k e ty : TypeId} {pos : String} {after : Array Edge} {gd : Option (Nat × Bool)} {a : Act} {w : World} {rest : List Oper}
theorem ok_insert {ρ : Operand → Value} {R : Value → World → Prop} {m x y : Operand} {b : Nat} {l : Ents} {key : ByteArray} {v : Value} (ht : P.underlying t = some (.map k e)) (hk : P.underlying k = some .string)
    (hm : ρ m = .map (some b)) (hx : ρ x = .string key) (hy : ρ y = v) (h : MapAt w b l) (hR : ∀ w', MapAt w' b (mput l key v) → w.grownBy w' (some b) → w'.heap.size = w.heap.size → R undef w') : Any.OpOk P ⟨dst, .insert t m x y, ty, pos, after, gd⟩ ρ w R := by
  obtain ⟨w', hr, h1, h2, h3⟩ := run_update ht hk h key v
  unfold Any.OpOk
  simp [execOp, hm, hx, hy, hr, Result.andThen]
  exact hR w' h1 h2 h3
theorem wpl_insert {m x y : Operand} {b : Nat} {l : Ents} {key : ByteArray} {v : Value} (hw : Region.wanted ⟨dst, .insert t m x y, ty, pos, after, gd⟩ (yielded ops a.tmps) = true)
    (hm : a.eval m = .map (some b)) (hx : a.eval x = .string key) (hy : a.eval y = v) (ht : P.underlying t = some (.map k e)) (hk : P.underlying k = some .string)
    (h : MapAt w b l) (hR : ∀ w', MapAt w' b (mput l key v) → w.grownBy w' (some b) → w'.heap.size = w.heap.size → wpList P ops Q rest (a.put dst undef) w') : wpList P ops Q (⟨dst, .insert t m x y, ty, pos, after, gd⟩ :: rest) a w :=
  Any.wpl hw (ok_insert ht hk hm hx hy h hR)
end
end Go.Proofs.YtbmjficiceiekaaDoor.Mp
namespace Go.Proofs.YtbmjficiceiekaaDoor.Sc
open Go Go.RowKit Go.ChangeShapes Go.WideShapes Go.ChangeAt Go.Shelf
set_option maxRecDepth 100000

theorem map_nc {w : World} {b : Nat} {l : Mp.Ents} {o : Obj} (h : Mp.MapAt w b l) (ho : w.heap[b]? = some o) : o.isCells = false := by
  obtain ⟨es, clock, hb, _⟩ := h
  rw [hb] at ho
  obtain rfl := Option.some.inj ho
  rfl
theorem map_ne {w : World} {b b' : Nat} {l : Mp.Ents} {cs : Array Value} {T : TypeId} {f : Nat × Nat} (h : Mp.MapAt w b' l) (ho : w.heap[b]? = some (.cells cs T f)) : ¬ b = b' := by
  intro e
  subst e
  have := map_nc h ho
  cases this
theorem iter_nc {w : World} {r b : Nat} {l todo : Mp.Ents} {o : Obj} (h : Mp.IterAt w r b l todo) (ho : w.heap[r]? = some o) : o.isCells = false := by
  obtain ⟨es, clock, since, seen, c0, hr, _⟩ := h
  rw [hr] at ho
  obtain rfl := Option.some.inj ho
  rfl
theorem Sl.keepNC {F : Nat → Prop} {w w' : World} {sz : Nat} {v : Value} {xs : List (List Value)} (h : Sl w sz v xs) (k : Keep F w w') (hF : ∀ b o, F b → w.heap[b]? = some o → o.isCells = false) : Sl w' sz v xs := by
  rcases h with h | ⟨b, off, cap, rfl, hlt, h1, h2, hc⟩
  · exact .inl h
  · refine .inr ⟨b, off, cap, rfl, Nat.lt_of_lt_of_le hlt k.size, h1, h2, fun i r hr j u hu => ?_⟩
    have hcu := hc i r hr j u hu
    refine (k.cell hlt (fun e => ?_)).trans hcu
    have h3 := hF b _ e (Array.getElem?_eq_getElem hlt)
    unfold World.cell? at hcu
    rw [Array.getElem?_eq_getElem hlt] at hcu
    cases ho : w.heap[b] <;> rw [ho] at h3 hcu <;> first | (cases h3; done) | simp at hcu
theorem vs_keepNC {F : Nat → Prop} {w w' : World} {v : Value} {V : List Vm} (h : VsAt w v V) (k : Keep F w w') (hF : ∀ b o, F b → w.heap[b]? = some o → o.isCells = false) : VsAt w' v V := ⟨h.1.keepNC k hF, fun x hx => (h.2 x hx).keepNC k hF⟩
theorem RAt.keepNC {F : Nat → Prop} {w w' : World} {bm : Nat} {es : Mp.Ents} {R : Rf} (h : RAt w bm es R) (k : Keep F w w') (hF : ∀ b o, F b → w.heap[b]? = some o → o.isCells = false) (hm : ¬ F bm) : RAt w' bm es R :=
  ⟨h.1.same (k.block _ h.1.lt hm), fun p => by
    have h2 := h.2 p
    cases hp : R p with
    | none => rw [hp] at h2; exact h2
    | some q =>
      rw [hp] at h2
      obtain ⟨a, n, c, h3, h4⟩ := h2
      exact ⟨a, n, c, h3, h4.keepNC k hF⟩⟩
/-- Between two rounds: the search, the voyages, what is reached. -/
structure BIn (w : World) (bs : Nat) (vv : Value) (V : List Vm) (fr : ByteArray) (cn : Int) (bm : Nat) (es : Mp.Ents) (R : Rf) (wr : World) : Prop where
  box : wr.heap[bs]? = some (.cells #[vv, .string fr, .int .i64 cn] 52 (0, 0))
  vs : VsAt wr vv V
  old : RAt wr bm es R
  bel : Below w.heap.size w wr
theorem BIn.keep {w : World} {bs : Nat} {vv : Value} {V : List Vm} {fr : ByteArray} {cn : Int} {bm : Nat} {es : Mp.Ents} {R : Rf} {wr wr' : World} {F : Nat → Prop} (h : BIn w bs vv V fr cn bm es R wr) (k : Keep F wr wr') (hF : ∀ b o, F b → wr.heap[b]? = some o → o.isCells = false) (hm : ¬ F bm) (hw : ∀ b, F b → w.heap.size ≤ b) : BIn w bs vv V fr cn bm es R wr' :=
  ⟨k.blk h.box (fun e => by have := hF bs _ e h.box; cases this), vs_keepNC h.vs k hF, h.old.keepNC k hF hm, k.behind h.bel h.bel.size (fun b hb e => by have := hw b e; omega)⟩
theorem BIn.below {w : World} {bs : Nat} {vv : Value} {V : List Vm} {fr : ByteArray} {cn : Int} {bm : Nat} {es : Mp.Ents} {R : Rf} {wr wr' : World} (h : BIn w bs vv V fr cn bm es R wr) (k : Below wr.heap.size wr wr') : BIn w bs vv V fr cn bm es R wr' :=
  h.keep (Keep.of_below (F := fun _ => False) k) (fun _ _ h => h.elim) (fun h => h) (fun _ h => h.elim)
/-- What has been laid anew so far. -/
def partR (V : List Vm) (R : Rf) (F : Fr) (todo : Mp.Ents) : Rf := fun p => if (Mp.mget todo p).isNone = true then overR V R F p else R p
theorem step_R {V : List Vm} {R : Rf} {F : Fr} {todo nes : Mp.Ents} {w w' : World} {bn : Nat} {key : ByteArray} {x : Lg} {ea : Int} {ls : List Lg} {s : Value} (h : RAt w bn nes (partR V R F todo)) (k : Keep (fun b => b = bn) w w')
    (hs : w'.ownsRow 0 37 3 s (ls.length + 1) (lgCells ls ++ (#[.int .i64 (x.voy : Int), .int .i64 (x.fr : Int), .int .i64 (x.to : Int)] : Array Value).toList)) (hm : Mp.MapAt w' bn (Mp.mput nes key (.agg #[.int .i64 ea, s]))) (hF : F key = some x) (hr : reachL V R x = (ea, ls ++ [x])) :
    RAt w' bn (Mp.mput nes key (.agg #[.int .i64 ea, s])) (partR V R F (Mp.mdel todo key)) := by
  have hc : lgCells ls ++ (#[.int .i64 (x.voy : Int), .int .i64 (x.fr : Int), .int .i64 (x.to : Int)] : Array Value).toList = lgCells (ls ++ [x]) := by
    rw [lgCells_append]
    simp [lgCells, Lg.row, Lg.cells]
  rw [hc] at hs
  have hsl := own_lgs hs (by simp)
  obtain ⟨sa, sc, rfl⟩ : ∃ a c, s = .slice a (ls ++ [x]).length c := by simpa using hsl.shape
  refine ⟨hm, fun p => ?_⟩
  by_cases hp : p = key
  · subst hp
    have e : partR V R F (Mp.mdel todo p) p = some (ea, ls ++ [x]) := by
      unfold partR
      rw [Mp.mget_mdel, if_pos rfl]
      simp only [Option.isNone_none, if_true]
      unfold overR
      rw [hF]
      exact congrArg some hr
    rw [e]
    exact ⟨_, _, _, Mp.mget_mput_same _ _ _, hsl⟩
  · have e : partR V R F (Mp.mdel todo key) p = partR V R F todo p := by
      unfold partR
      rw [Mp.mget_mdel, if_neg (show ¬ key = p from fun e => hp e.symm)]
    rw [e, Mp.mget_mput_other _ _ hp]
    have h2 := h.2 p
    cases hq : partR V R F todo p with
    | none => rw [hq] at h2; exact h2
    | some q =>
      rw [hq] at h2
      obtain ⟨a, n, c, h3, h4⟩ := h2
      exact ⟨a, n, c, h3, h4.keepNC k (fun b o e ho => by subst e; exact map_nc h.1 ho)⟩
def bestR (l : List Vm) (fr tp : ByteArray) (ready ch : Int) : Option (Int × List Lg) := if fr = tp then none else roundsR (l.map cleanV) fr (heldN ch) ready 8 tp
def BestP (w : World) (r : Option (Int × List Lg)) (e : Ending) (w' : World) : Prop := match r with
  | none => e = .returned (.tuple #[.slice none 0 0, .int .i64 0, .bool false]) ∧ Below w.heap.size w w'
  | some (d, ls) => ∃ v, e = .returned (.tuple #[v, .int .i64 d, .bool true]) ∧ Below w.heap.size w w' ∧ Sl w' 3 v (ls.map Lg.row)
theorem start_vs {w w' : World} {vl v : Value} {l : List Vm} (hs : VsAt w vl l) (ho : w'.ownsRow (w.heap.size + 2) 32 2 v l.length (vmCells (l.map cleanV))) (hb : Below w.heap.size w w') : VsAt w' v (l.map cleanV) := by
  refine ⟨own_vms ho (by simp), fun x hx => ?_⟩
  obtain ⟨y, hy, rfl⟩ := List.mem_map.1 hx
  unfold cleanV
  split
  · exact (hs.2 y hy).below hb (Nat.le_refl _)
  · exact .inl ⟨rfl, none, 0, rfl, fun _ => rfl⟩
set_option maxHeartbeats 8000000 in
theorem best_any (l : List Vm) (vl : Value) (fr tp : ByteArray) (ready ch : Int) (w : World) (hs : VsAt w vl l) (hl : l.length ≤ 4000) : Calls Tryd.prog 13 #[vl, .string fr, .string tp, .int .i64 ready, .int .i64 ch] w (BestP w (bestR l fr tp ready ch)) := by
  by_cases hft : fr = tp
  · have s1 : (fr.toList == tp.toList) = true := by rw [str_beq, decide_eq_true hft]
    rw [bestR, if_pos hft]
    clear hs hft
    go_enter Tryd.func13, Tryd.ntmps13
    go_wp2_with fail
    go_ret3
    exact ⟨rfl, Below.refl _ _⟩
  have s1 : (fr.toList == tp.toList) = false := by rw [str_beq, decide_eq_false hft]
  rw [bestR, if_neg hft]
  have HST := Lib.hid (start_any l vl fr ch w hs hl)
  have HS := Lib.hid hs
  obtain ⟨V, hV⟩ : ∃ V, V = l.map cleanV := ⟨_, rfl⟩
  obtain ⟨cn, hcn⟩ : ∃ cn, cn = heldN ch := ⟨_, rfl⟩
  have HCN : Hid (0 ≤ cn ∧ cn ≤ 1048576) := Lib.hid (by rw [hcn, heldN]; split <;> (try split) <;> omega)
  have HVO : Hid (VOk V) := Lib.hid (by rw [hV]; exact clean_ok l)
  have HVD := Lib.hid (And.intro hV hcn)
  rw [← hV, ← hcn]
  obtain ⟨i0, hi0, hz0, hsz0, hby0⟩ := info_parts infoLg
  have HI := Lib.hid (And.intro hi0 (And.intro hz0 (And.intro hsz0 hby0)))
  clear hi0 hz0 hsz0 hby0
  have HMADE := Lib.hid (fun (w1 : World) (o : Obj) => (by have := Mp.MapAt.made (w1.alloc o); rwa [World.size_alloc] at this : Mp.MapAt ((w1.alloc o).alloc (.map #[] 0)) (w1.heap.size + 1) []))
  have hmm := @run_makeMap Tryd.prog
  clear hs hft hV hcn
  go_enter Tryd.func13, Tryd.ntmps13
  go_wp2_with (first
    | ((with_reducible refine HST.out.mono ?_); rintro e w1 ⟨vv, rfl, ho1, hb1⟩; have HO1 := Lib.hid ho1; have HB1 := Lib.hid hb1
       have HC : Hid (seaC vv fr (heldN ch) = #[vv, .string fr, .int .i64 cn]) := Lib.hid (by rw [HVD.out.2]; rfl)
       obtain ⟨va, vc, rfl⟩ : ∃ a c, vv = .slice a l.length c := by simpa using (own_vms ho1 (by simp)).shape
       rw [HC.out]; clear ho1 hb1)
    | ((with_reducible refine Mp.wpl_insert (b := w1.heap.size + 1) (l := []) (key := fr) (v := .agg #[.int .i64 ready, .slice none 0 0]) ?_ ?_ ?_ ?_ Tryd.underlying56 Tryd.underlying9 (HMADE.out w1 _) ?_); rfl; rfl; rfl; rfl
       intro w2 hm2 hg2 hz2; have HM2 := Lib.hid hm2; have HG2 := Lib.hid hg2; have HZ2 := Lib.hid hz2; clear hm2 hg2 hz2; go_frame)
    | fail)
  obtain ⟨bs, hbs⟩ : ∃ bs, bs = w1.heap.size := ⟨_, rfl⟩
  obtain ⟨vv, hvv⟩ : ∃ vv, vv = Value.slice va l.length vc := ⟨_, rfl⟩
  have HVV := Lib.hid hvv
  have HBSZ := Lib.hid hbs
  have hb2 : Below w1.heap.size w1 w2 := ((((one_below w1 _).alloc (by simp) _)).grown HG2.out (by simp <;> omega) (fun k e => by have := Option.some.inj e; omega))
  have HBI : Hid (BIn w bs vv V fr cn (bs + 1) (Mp.mput [] fr (.agg #[.int .i64 ready, .slice none 0 0])) (roundsR V fr cn ready 0) w2) := Lib.hid (by
    refine ⟨?_, ?_, ⟨by rw [hbs]; exact HM2.out, fun p => ?_⟩, HB1.out.trans (hb2.mono HB1.out.size)⟩
    · rw [hbs, hvv]
      exact (HG2.out.block _ (by simp; omega) (fun e => by have := Option.some.inj e; omega)).trans (blk (one_below _ _) (by simp) (heap_alloc_new w1 _))
    · rw [hvv, HVD.out.1]
      exact (start_vs HS.out HO1.out HB1.out).below hb2
    · show match R0 fr ready p with | none => _ | some (d, ls) => _
      unfold R0
      by_cases e : p = fr
      · subst e
        rw [if_pos rfl]
        exact ⟨none, 0, 0, Mp.mget_mput_same _ _ _, .inl ⟨rfl, none, 0, rfl, fun _ => rfl⟩⟩
      · rw [if_neg e]
        exact (Mp.mget_mput_other _ _ e).trans rfl)
  clear hb2
  rw [← hbs, ← hvv]
  generalize bs + 1 = bm0 at *
  clear hbs hvv s1
  go_loopw [14, 15, 16, 17, 18, 19, 34] (fun r _ _ _ _ _ i wr => ∃ (k bm : Nat) (es : Mp.Ents), k ≤ 8 ∧ i = .int .i64 k ∧ r = .map (some bm) ∧ BIn w bs vv V fr cn bm es (roundsR V fr cn ready k) wr) (fun _ _ _ _ _ _ i _ => 8 - (intOf i).toNat)
  case atStart => exact ⟨0, bm0, _, Nat.zero_le _, rfl, rfl, HBI.out⟩
  case round =>
    clear HBI
    obtain ⟨k, bm, es, hk, rfl, rfl, hbi⟩ := hrel
    have HBI := Lib.hid hbi
    have HK := Lib.hid hk
    have y0 := cell_blk hbi.box 0
    have y1 := cell_blk hbi.box 1
    have y2 := cell_blk hbi.box 2
    clear hbi
    by_cases hlt : k < 8
    rotate_left
    · have hki : ¬ (k : Int) < 8 := by omega
      obtain ⟨R8, hR8⟩ : ∃ R8, R8 = roundsR V fr cn ready 8 := ⟨_, rfl⟩
      have HR8 := Lib.hid hR8
      rw [← hR8]
      have HT := Lib.hid (HBI.out.old.2 tp)
      have HRR : Hid (roundsR V fr cn ready k = R8) := Lib.hid (by rw [hR8]; rw [show k = 8 by omega])
      rw [HRR.out] at HT
      clear hR8
      have HMT := Lib.hid HBI.out.old.1
      have HLT : Hid (∀ d ls, R8 tp = some (d, ls) → ls.length ≤ 8) := Lib.hid (fun d ls h => by
        rw [HR8.out] at h
        exact (rounds_ok HVO.out fr cn ready 8).len tp d ls h)
      cases hto : R8 tp with
      | none =>
        rw [hto] at HT
        have HTG : Hid (Mp.mget es tp = none) := Lib.hid HT.out
        have HTO := Lib.hid hto
        clear hto
        go_wp2_with (first
          | ((with_reducible refine Mp.wpl_miss (b := bm) (l := es) (key := tp) ?_ ?_ ?_ Tryd.underlying56 Tryd.underlying9 (zeroStop _) HMT.out HTG.out ?_); rfl; rfl; rfl)
          | fail)
        go_ret3
        show BestP w (roundsR V fr cn ready 8 tp) _ _
        rw [← HR8.out, HTO.out]
        exact ⟨rfl, HBI.out.bel.alloc HBI.out.bel.size _⟩
      | some q =>
        obtain ⟨td, ls⟩ := q
        rw [hto] at HT
        obtain ⟨ta, tn, tc, htg, hts⟩ := HT.out
        have HTG := Lib.hid htg
        have HTO := Lib.hid hto
        have HLS := Lib.hid (HLT.out td ls hto)
        have HTS := Lib.hid (hts.below (one_below wr (.cells #[.int .i64 td, .slice ta tn tc] 55)) (Nat.le_refl _))
        have HEB := Lib.hid (heap_alloc_new wr (.cells #[.int .i64 td, .slice ta tn tc] 55))
        have HB9 := Lib.hid (HBI.out.bel.alloc HBI.out.bel.size (.cells #[.int .i64 td, .slice ta tn tc] 55))
        clear hto htg hts
        go_wp2_with (first
          | ((with_reducible refine Mp.wpl_got (b := bm) (l := es) (key := tp) ?_ ?_ ?_ Tryd.underlying56 Tryd.underlying9 (zeroStop _) HMT.out HTG.out ?_); rfl; rfl; rfl)
          | fail)
        generalize wr.alloc (.cells #[.int .i64 td, .slice ta tn tc] 55) = W9 at *
        generalize wr.heap.size = be at *
        have HE : Hid (∀ W, Below W9.heap.size W9 W → W.cell? ⟨be, 0, none⟩ = some (.int .i64 td) ∧ W.cell? ⟨be, 1, none⟩ = some (.slice ta tn tc)) := Lib.hid (fun W hb => by
          have h1 := blk hb (lt_blk HEB.out) HEB.out
          exact ⟨cell_blk h1 0, cell_blk h1 1⟩)
        have HCE : Hid (∀ W, Below W9.heap.size W9 W → Calls Tryd.prog 32 #[.slice ta tn tc] W (RetRow W 37 3 ls.length (lgCells ls))) := Lib.hid (fun W hb => cloneLg_any ls _ W (HTS.out.below hb (Nat.le_refl _)) (by have := HLS.out; omega))
        refine Any.region_lit (fun
          | 0 => Any.val (.pointer (some ⟨be, 1, none⟩))
          | 1 => Any.val (.slice ta tn tc)
          | 2 => Any.row W9.heap.size 37 3 ls.length (lgCells ls) []
          | 3 => Any.val (.pointer (some ⟨be, 0, none⟩))
          | 4 => Any.val (.int .i64 td)
          | 5 => Any.row W9.heap.size 37 3 ls.length (lgCells ls) [2]
          | 6 => Any.val (.int .i64 td)
          | 7 => Any.val (.bool true)
          | _ => Any.idle) (by kernel_rfl) (by kernel_rfl) (by kernel_rfl) ?_ ?_ ?_
        · intro i _
          match i with
          | 0 => exact Any.lasts_val _
          | 1 => exact Any.lasts_val _
          | 2 => exact Any.lasts_row _ _ _ _ _ _
          | 3 => exact Any.lasts_val _
          | 4 => exact Any.lasts_val _
          | 5 => exact Any.lasts_row _ _ _ _ _ _
          | 6 => exact Any.lasts_val _
          | 7 => exact Any.lasts_val _
          | n + 8 => exact Any.lasts_idle
        · refine ⟨?_, ?_, ?_, ?_, ?_, ?_, ?_, ?_, trivial⟩
          · refine Any.owes_plain rfl fun ρ wo hs' hb hc' => ?_
            have h20 : ρ (.tmp 20) = .pointer (some ⟨be, 0, none⟩) := hs'.old' 20 (by kernel_rfl)
            go_simp
            exact Any.post_val hb rfl rfl
          · refine Any.owes_plain rfl fun ρ wo hs' hb hc' => ?_
            have h88 : ρ (.tmp 88) = .pointer (some ⟨be, 1, none⟩) := hs'.new' 88 0 (by kernel_rfl)
            have c0 := (HE.out wo (below_undrew hb)).2
            go_simp
            exact Any.post_val hb rfl rfl
          · refine Any.owes_plain rfl fun ρ wo hs' hb hc' => ?_
            have h89 : ρ (.tmp 89) = .slice ta tn tc := hs'.new' 89 1 (by kernel_rfl)
            have hf := hs'.func 32
            have hf := hs'.func 32
            go_simp
            exact (HCE.out wo (below_undrew hb)).mono fun e w' ⟨v, he, ho, hb'⟩ => ⟨v, he, Any.post_new hb (ownsRow_base ho hb.size) hb' (fun b h => (ho.lt b h).1)⟩
          · refine Any.owes_plain rfl fun ρ wo hs' hb hc' => ?_
            have h20 : ρ (.tmp 20) = .pointer (some ⟨be, 0, none⟩) := hs'.old' 20 (by kernel_rfl)
            go_simp
            exact Any.post_val hb rfl rfl
          · refine Any.owes_plain rfl fun ρ wo hs' hb hc' => ?_
            have h91 : ρ (.tmp 91) = .pointer (some ⟨be, 0, none⟩) := hs'.new' 91 3 (by kernel_rfl)
            have c0 := (HE.out wo (below_undrew hb)).1
            go_simp
            exact Any.post_val hb rfl rfl
          · refine Any.owes_plain rfl fun ρ wo hs' hb hc' => ?_
            have h8 : wo.ownsRow W9.heap.size 37 3 (ρ (.tmp 90)) ls.length (lgCells ls) := hs'.new' 90 2 (by kernel_rfl)
            exact Any.ok_assign (Any.post_pass hb rfl ⟨_, rfl⟩ rfl rfl h8)
          · refine Any.owes_plain rfl fun ρ wo hs' hb hc' => ?_
            have h92 : ρ (.tmp 92) = .int .i64 td := hs'.new' 92 4 (by kernel_rfl)
            exact Any.ok_assign (Any.post_val hb rfl h92)
          · refine Any.owes_plain rfl fun ρ wo hs' hb hc' => ?_
            exact Any.ok_assign (Any.post_val hb rfl (hc' _))
        · intro vals w10 hb hk ha
          have h5 := hk 5 (by kernel_rfl)
          have h6 : vals 6 = .int .i64 td := hk 6 (by kernel_rfl)
          have h7 : vals 7 = .bool true := hk 7 (by kernel_rfl)
          have H5 := Lib.hid h5
          have HB10 := Lib.hid hb
          clear hk ha hb h5
          simp only [Any.putAll]
          go_frame
          simp only [Nat.zero_add, Nat.reduceAdd]
          rw [h6, h7]
          clear h6 h7
          go_wp2_with fail
          go_ret3
          show BestP w (roundsR V fr cn ready 8 tp) _ _
          rw [← HR8.out, HTO.out]
          exact ⟨_, rfl, HB9.out.trans (HB10.out.mono HB9.out.size), own_lgs H5.out rfl⟩
    · have hki : (k : Int) < 8 := by omega
      have HK8 := Lib.hid hlt
      clear hlt hk
      obtain ⟨R, hR⟩ : ∃ R, R = roundsR V fr cn ready k := ⟨_, rfl⟩
      have HRR := Lib.hid hR
      have HRO : Hid (RfOk V fr ready k R) := Lib.hid (by rw [hR]; exact rounds_ok HVO.out fr cn ready k)
      rw [← hR] at HBI
      clear hR
      have HAN := Lib.hid (anew_any V vv fr cn bm es R wr HBI.out.vs HBI.out.old.1 HBI.out.old.rday HCN.out (fun p d ls h hne => (HRO.out.day p d ls h hne).1))
      simp only [seaC] at HAN
      obtain ⟨F, hF⟩ : ∃ F, F = freshF V R fr (restV R fr cn V 0) := ⟨_, rfl⟩
      have HFO : Hid (FrOk V fr F) := Lib.hid (by rw [hF]; exact freshF_ok R fr _ (legs_ok R fr cn V))
      have HFF := Lib.hid hF
      rw [← hF] at HAN
      clear hF
      go_upto_region 8 with (first
        | ((with_reducible refine HAN.out.mono ?_); rintro e w3 ⟨bf, fes, rfl, hmf, hfe, hbf, hb3⟩; have HMF := Lib.hid hmf; have HFE := Lib.hid hfe; have HB3 := Lib.hid hb3; have HBI3 := Lib.hid (HBI.out.below hb3); clear hmf hfe hbf hb3)
        | fail)
      by_cases hf0 : fes = []
      · have hl0 : ((fes.length : Int) == 0) = true := by rw [hf0]; rfl
        have HSTY : Hid (nextR V fr cn (roundsR V fr cn ready k) = roundsR V fr cn ready k) := Lib.hid (by
          unfold nextR
          rw [← HRR.out, ← HFF.out]
          refine overR_none V R F fun p => ?_
          have := HFE.out p
          rw [hf0] at this
          cases hq : F p with
          | none => rfl
          | some x => rw [hq] at this; cases this)
        have HBI3 := Lib.hid (show BIn w bs vv V fr cn bm es (roundsR V fr cn ready k) w3 from HRR.out ▸ HBI3.out)
        clear hf0
        go_upto_region 17 with (first
          | ((with_reducible refine Mp.wpl_len (b := bf) (l := fes) ?_ ?_ Tryd.underlying57 HMF.out ?_); rfl; rfl)
          | fail)
        obtain ⟨R8, hR8⟩ : ∃ R8, R8 = roundsR V fr cn ready 8 := ⟨_, rfl⟩
        have HR8 := Lib.hid hR8
        rw [← hR8]
        have HT := Lib.hid (HBI3.out.old.2 tp)
        have HRR : Hid (roundsR V fr cn ready k = R8) := Lib.hid (by rw [hR8]; rw [← rounds_stay HSTY.out (8 - k), show k + (8 - k) = 8 by have := HK.out; omega])
        rw [HRR.out] at HT
        clear hR8
        have HMT := Lib.hid HBI3.out.old.1
        have HLT : Hid (∀ d ls, R8 tp = some (d, ls) → ls.length ≤ 8) := Lib.hid (fun d ls h => by
          rw [HR8.out] at h
          exact (rounds_ok HVO.out fr cn ready 8).len tp d ls h)
        cases hto : R8 tp with
        | none =>
          rw [hto] at HT
          have HTG : Hid (Mp.mget es tp = none) := Lib.hid HT.out
          have HTO := Lib.hid hto
          clear hto
          go_wp2_with (first
            | ((with_reducible refine Mp.wpl_miss (b := bm) (l := es) (key := tp) ?_ ?_ ?_ Tryd.underlying56 Tryd.underlying9 (zeroStop _) HMT.out HTG.out ?_); rfl; rfl; rfl)
            | fail)
          go_ret3
          show BestP w (roundsR V fr cn ready 8 tp) _ _
          rw [← HR8.out, HTO.out]
          exact ⟨rfl, HBI3.out.bel.alloc HBI3.out.bel.size _⟩
        | some q =>
          obtain ⟨td, ls⟩ := q
          rw [hto] at HT
          obtain ⟨ta, tn, tc, htg, hts⟩ := HT.out
          have HTG := Lib.hid htg
          have HTO := Lib.hid hto
          have HLS := Lib.hid (HLT.out td ls hto)
          have HTS := Lib.hid (hts.below (one_below w3 (.cells #[.int .i64 td, .slice ta tn tc] 55)) (Nat.le_refl _))
          have HEB := Lib.hid (heap_alloc_new w3 (.cells #[.int .i64 td, .slice ta tn tc] 55))
          have HB9 := Lib.hid (HBI3.out.bel.alloc HBI3.out.bel.size (.cells #[.int .i64 td, .slice ta tn tc] 55))
          clear hto htg hts
          go_wp2_with (first
            | ((with_reducible refine Mp.wpl_got (b := bm) (l := es) (key := tp) ?_ ?_ ?_ Tryd.underlying56 Tryd.underlying9 (zeroStop _) HMT.out HTG.out ?_); rfl; rfl; rfl)
            | fail)
          generalize w3.alloc (.cells #[.int .i64 td, .slice ta tn tc] 55) = W9 at *
          generalize w3.heap.size = be at *
          have HE : Hid (∀ W, Below W9.heap.size W9 W → W.cell? ⟨be, 0, none⟩ = some (.int .i64 td) ∧ W.cell? ⟨be, 1, none⟩ = some (.slice ta tn tc)) := Lib.hid (fun W hb => by
            have h1 := blk hb (lt_blk HEB.out) HEB.out
            exact ⟨cell_blk h1 0, cell_blk h1 1⟩)
          have HCE : Hid (∀ W, Below W9.heap.size W9 W → Calls Tryd.prog 32 #[.slice ta tn tc] W (RetRow W 37 3 ls.length (lgCells ls))) := Lib.hid (fun W hb => cloneLg_any ls _ W (HTS.out.below hb (Nat.le_refl _)) (by have := HLS.out; omega))
          refine Any.region_lit (fun
            | 0 => Any.val (.pointer (some ⟨be, 1, none⟩))
            | 1 => Any.val (.slice ta tn tc)
            | 2 => Any.row W9.heap.size 37 3 ls.length (lgCells ls) []
            | 3 => Any.val (.pointer (some ⟨be, 0, none⟩))
            | 4 => Any.val (.int .i64 td)
            | 5 => Any.row W9.heap.size 37 3 ls.length (lgCells ls) [2]
            | 6 => Any.val (.int .i64 td)
            | 7 => Any.val (.bool true)
            | _ => Any.idle) (by kernel_rfl) (by kernel_rfl) (by kernel_rfl) ?_ ?_ ?_
          · intro i _
            match i with
            | 0 => exact Any.lasts_val _
            | 1 => exact Any.lasts_val _
            | 2 => exact Any.lasts_row _ _ _ _ _ _
            | 3 => exact Any.lasts_val _
            | 4 => exact Any.lasts_val _
            | 5 => exact Any.lasts_row _ _ _ _ _ _
            | 6 => exact Any.lasts_val _
            | 7 => exact Any.lasts_val _
            | n + 8 => exact Any.lasts_idle
          · refine ⟨?_, ?_, ?_, ?_, ?_, ?_, ?_, ?_, trivial⟩
            · refine Any.owes_plain rfl fun ρ wo hs' hb hc' => ?_
              have h20 : ρ (.tmp 20) = .pointer (some ⟨be, 0, none⟩) := hs'.old' 20 (by kernel_rfl)
              go_simp
              exact Any.post_val hb rfl rfl
            · refine Any.owes_plain rfl fun ρ wo hs' hb hc' => ?_
              have h88 : ρ (.tmp 88) = .pointer (some ⟨be, 1, none⟩) := hs'.new' 88 0 (by kernel_rfl)
              have c0 := (HE.out wo (below_undrew hb)).2
              go_simp
              exact Any.post_val hb rfl rfl
            · refine Any.owes_plain rfl fun ρ wo hs' hb hc' => ?_
              have h89 : ρ (.tmp 89) = .slice ta tn tc := hs'.new' 89 1 (by kernel_rfl)
              have hf := hs'.func 32
              have hf := hs'.func 32
              go_simp
              exact (HCE.out wo (below_undrew hb)).mono fun e w' ⟨v, he, ho, hb'⟩ => ⟨v, he, Any.post_new hb (ownsRow_base ho hb.size) hb' (fun b h => (ho.lt b h).1)⟩
            · refine Any.owes_plain rfl fun ρ wo hs' hb hc' => ?_
              have h20 : ρ (.tmp 20) = .pointer (some ⟨be, 0, none⟩) := hs'.old' 20 (by kernel_rfl)
              go_simp
              exact Any.post_val hb rfl rfl
            · refine Any.owes_plain rfl fun ρ wo hs' hb hc' => ?_
              have h91 : ρ (.tmp 91) = .pointer (some ⟨be, 0, none⟩) := hs'.new' 91 3 (by kernel_rfl)
              have c0 := (HE.out wo (below_undrew hb)).1
              go_simp
              exact Any.post_val hb rfl rfl
            · refine Any.owes_plain rfl fun ρ wo hs' hb hc' => ?_
              have h8 : wo.ownsRow W9.heap.size 37 3 (ρ (.tmp 90)) ls.length (lgCells ls) := hs'.new' 90 2 (by kernel_rfl)
              exact Any.ok_assign (Any.post_pass hb rfl ⟨_, rfl⟩ rfl rfl h8)
            · refine Any.owes_plain rfl fun ρ wo hs' hb hc' => ?_
              have h92 : ρ (.tmp 92) = .int .i64 td := hs'.new' 92 4 (by kernel_rfl)
              exact Any.ok_assign (Any.post_val hb rfl h92)
            · refine Any.owes_plain rfl fun ρ wo hs' hb hc' => ?_
              exact Any.ok_assign (Any.post_val hb rfl (hc' _))
          · intro vals w10 hb hk ha
            have h5 := hk 5 (by kernel_rfl)
            have h6 : vals 6 = .int .i64 td := hk 6 (by kernel_rfl)
            have h7 : vals 7 = .bool true := hk 7 (by kernel_rfl)
            have H5 := Lib.hid h5
            have HB10 := Lib.hid hb
            clear hk ha hb h5
            simp only [Any.putAll]
            go_frame
            simp only [Nat.zero_add, Nat.reduceAdd]
            rw [h6, h7]
            clear h6 h7
            go_wp2_with fail
            go_ret3
            show BestP w (roundsR V fr cn ready 8 tp) _ _
            rw [← HR8.out, HTO.out]
            exact ⟨_, rfl, HB9.out.trans (HB10.out.mono HB9.out.size), own_lgs H5.out rfl⟩
      · have hl0 : ((fes.length : Int) == 0) = false := by
          have : fes.length ≠ 0 := fun e => hf0 (List.length_eq_zero_iff.1 e)
          simp; omega
        have HMC := Lib.hid (mapClone_any bm es w3 HBI3.out.old.1)
        have hl1 : (fes.length == 0) = false := by
          have : fes.length ≠ 0 := fun e => hf0 (List.length_eq_zero_iff.1 e)
          simpa using this
        clear hf0
        go_wp2_with (first
          | ((with_reducible refine Mp.wpl_len (b := bf) (l := fes) ?_ ?_ Tryd.underlying57 HMF.out ?_); rfl; rfl)
          | ((with_reducible refine HMC.out.mono ?_); rintro e w4 ⟨rfl, hm4, hb4⟩; have HM4 := Lib.hid hm4; have HB4 := Lib.hid hb4; have HBI4 := Lib.hid (HBI3.out.below hb4); have HMF4 := Lib.hid (HMF.out.same (hb4.block _ HMF.out.lt)); clear hm4 hb4)
          | ((with_reducible refine Mp.wpl_range ?_ ?_ Tryd.underlying57 HMF4.out ?_); rfl; rfl; intro w5 hit5 hal5; have HIT5 := Lib.hid hit5; have HB5 : Hid (Below w4.heap.size w4 w5 ∧ w4.heap.size < w5.heap.size) := Lib.hid (by obtain ⟨o, rfl⟩ := hal5; exact ⟨one_below _ _, by simp⟩); clear hit5 hal5; go_frame)
          | fail)
        obtain ⟨bn, hbn⟩ : ∃ bn, bn = w3.heap.size := ⟨_, rfl⟩
        obtain ⟨ri, hri⟩ : ∃ ri, ri = w4.heap.size := ⟨_, rfl⟩
        have HDN : Hid (¬ bm = bn ∧ w.heap.size ≤ bn ∧ ¬ ri = bn ∧ ¬ bf = bn) := Lib.hid (by
          have h1 := HBI3.out.old.1.lt
          have h2 := HBI3.out.bel.size
          have h3 := HMF.out.lt
          have h4 := HM4.out.lt
          refine ⟨by omega, by omega, by omega, by omega⟩)
        have HDR : Hid (¬ bm = ri ∧ w.heap.size ≤ ri ∧ ¬ bn = ri ∧ ¬ bf = ri) := Lib.hid (by
          have h1 := HBI4.out.old.1.lt
          have h2 := HBI4.out.bel.size
          have h3 := HMF4.out.lt
          have h4 := HM4.out.lt
          refine ⟨by omega, by omega, by omega, by omega⟩)
        have HST0 : Hid (BIn w bs vv V fr cn bm es R w5 ∧ RAt w5 bn es (partR V R F fes) ∧ Mp.IterAt w5 ri bf fes fes) := Lib.hid (by
          refine ⟨HBI4.out.below HB5.out.1, ?_, by rw [hri]; exact HIT5.out⟩
          have h1 : RAt w5 bn es R := ⟨by rw [hbn]; exact HM4.out.same (HB5.out.1.block _ HM4.out.lt), (HBI4.out.below HB5.out.1).old.2⟩
          have h2 : partR V R F fes = R := by
            funext p
            unfold partR
            by_cases hg : Mp.mget fes p = none
            · rw [hg]
              have := HFE.out p
              rw [hg] at this
              unfold overR
              cases hq : F p with
              | none => rfl
              | some x => rw [hq] at this; cases this
            · rw [if_neg (by simpa using hg)]
          rw [h2]
          exact h1)
        have HNDF := Lib.hid HMF.out.nodup
        rw [← hbn, ← hri]
        clear hbn hri y0 y1 y2 hl0 hl1
        go_loopw [17, 18, 19] (fun _ _ _ wr => ∃ nes todo, (BIn w bs vv V fr cn bm es R wr ∧ RAt wr bn nes (partR V R F todo) ∧ Mp.IterAt wr ri bf fes todo) ∧ (∀ q, q ∈ todo → q ∈ fes) ∧ (Mp.mkeys todo).Nodup) (fun _ _ _ wr => Mp.itLeft wr ri bf)
        case atStart => exact ⟨es, fes, HST0.out, fun _ h => h, HNDF.out⟩
        case round =>
          obtain ⟨nes, todo, hdi, hsub, hnd⟩ := hrel
          have HDI := Lib.hid hdi
          have HSUB := Lib.hid hsub
          have HND := Lib.hid hnd
          have HIT0 := Lib.hid hdi.2.2
          clear hdi hsub hnd HST0
          go_wp2_with (first
            | ((with_reducible refine Mp.wpl_next ?_ ?_ HIT0.out ?_ ?_); rfl; rfl)
            | fail)
          · intro h0
            have HNR : Hid (RAt wr bn nes (roundsR V fr cn ready (k + 1))) := Lib.hid (by
              have h1 := HDI.out.2.1
              rw [h0] at h1
              have h2 : partR V R F [] = roundsR V fr cn ready (k + 1) := by
                funext p
                have h3 : partR V R F [] p = overR V R F p := if_pos rfl
                rw [h3, HFF.out, HRR.out]
                rfl
              rw [← h2]
              exact h1)
            clear h0
            go_wp2_with fail
            go_roundw
            case rel => exact ⟨k + 1, bn, nes, HK8.out, by go_num, rfl, ⟨HDI.out.1.box, HDI.out.1.vs, HNR.out, HDI.out.1.bel⟩⟩
            case measure => (simp [intOf]) <;> omega
          · intro key sv wc hmem hitc hgc hsc hen
            have HTD := Lib.hid hmem
            have HKC := Lib.hid (Keep.of_grown hgc)
            have hnc : ∀ b o, some ri = some b → wr.heap[b]? = some o → o.isCells = false := fun b o e h => by
              obtain rfl := Option.some.inj e
              exact iter_nc HDI.out.2.2 h
            have HBIC := Lib.hid (HDI.out.1.keep HKC.out hnc (fun e => HDR.out.1 (Option.some.inj e).symm) (fun b e => by obtain rfl := Option.some.inj e; exact HDR.out.2.1))
            have HNXC := Lib.hid (HDI.out.2.1.keepNC HKC.out hnc (fun e => HDR.out.2.2.1 (Option.some.inj e).symm))
            have HITC := Lib.hid hitc
            have hget : Mp.mget fes key = some sv := Mp.mget_of_mem HNDF.out (HSUB.out _ hmem)
            obtain ⟨x, hFx, rfl⟩ : ∃ x, F key = some x ∧ Value.agg x.cells = sv := by
              have h1 := HFE.out key
              rw [hget] at h1
              cases hq : F key with
              | none => rw [hq] at h1; cases h1
              | some x => rw [hq] at h1; exact ⟨x, rfl, (Option.some.inj h1).symm⟩
            obtain ⟨hx, ⟨⟨ep, eu, ea, ed⟩, hxe, -⟩, -⟩ := HFO.out key x hFx
            obtain ⟨⟨cp, cu, ca, cd⟩, hxc⟩ := lgOk_fr hx
            have hrl : reachL V R x = (ea, legsR R cp ++ [x]) := by unfold reachL; rw [hxe, hxc]
            obtain ⟨xv, xf, xt⟩ := x
            have HST := Lib.hid (And.intro hFx hrl)
            have HARC := Lib.hid hxe
            have HLEN := Lib.hid (Nat.le_trans (legsR_len HRO.out cp) (by have := HK8.out; omega : k ≤ 8))
            obtain ⟨W5, hW5⟩ : ∃ W5, W5 = wc.alloc (.cells #[.int .i64 (xv : Int), .int .i64 (xf : Int), .int .i64 (xt : Int)] 37) := ⟨_, rfl⟩
            have hb5 : Below wc.heap.size wc W5 := by rw [hW5]; exact one_below _ _
            have HBI5 := Lib.hid (HBIC.out.below hb5)
            have HNX5 := Lib.hid (HNXC.out.below hb5)
            have HIT5 := Lib.hid (HITC.out.same (hb5.block _ HITC.out.lt.1) (hb5.block _ HITC.out.lt.2))
            obtain ⟨lb, hlb⟩ : ∃ lb, lb = wc.heap.size := ⟨_, rfl⟩
            have HLB5 : Hid (W5.heap[lb]? = some (.cells #[.int .i64 (xv : Int), .int .i64 (xf : Int), .int .i64 (xt : Int)] 37 (0, 0))) := Lib.hid (by rw [hW5, hlb]; exact heap_alloc_new _ _)
            have hxv : xv < V.length := by
              obtain ⟨v, hv, _⟩ := hx
              exact (List.getElem?_eq_some_iff.1 hv).1
            have HVS5 := Lib.hid (show VsAt W5 (.slice va l.length vc) V from HVV.out ▸ HBI5.out.vs)
            have hVl : l.length = V.length := by rw [HVD.out.1]; simp
            obtain ⟨b, off, hva, hb, e0, e1, hcs⟩ := vs_at HVS5.out hxv
            rw [frC, List.getElem?_eq_getElem hxv, Option.bind_some] at hxc
            have hvi : (xv : Int) < (l.length : Int) := by omega
            generalize V[xv] = v at *
            obtain ⟨sh, cval, cs⟩ := v
            simp only at e1 hcs hxc
            obtain ⟨hxf, hcc⟩ := List.getElem?_eq_some_iff.1 hxc
            obtain ⟨ac, cc, rfl⟩ : ∃ a c, cval = .slice a cs.length c := by simpa using hcs.shape
            obtain ⟨b', off', rfl, hb', hp⟩ := cl_at hcs hxf
            rw [hcc] at hp
            have hfi : (xf : Int) < (cs.length : Int) := by omega
            have hml : cs.length ≤ 9223372036854775807 := by have := hcs.len_le; simp only [List.length_map, maxLen] at this; omega
            have HQ : Hid (∀ W, Below W5.heap.size W5 W → W.cell? ⟨bs, 0, none⟩ = some (.slice (some ⟨b, off, none⟩) l.length vc) ∧ W.cell? ⟨lb, 0, none⟩ = some (.int .i64 (xv : Int)) ∧ W.cell? ⟨b, off + xv * 2 + 1, none⟩ = some (.slice (some ⟨b', off', none⟩) cs.length cc) ∧ W.cell? ⟨lb, 1, none⟩ = some (.int .i64 (xf : Int)) ∧ W.cell? ⟨b', off' + xf * 4, none⟩ = some (.string cp)) := Lib.hid (fun W hW => by
              have h1 := blk hW (lt_blk HBI5.out.box) HBI5.out.box
              have h2 := blk hW (lt_blk HLB5.out) HLB5.out
              rw [HVV.out, hva] at h1
              exact ⟨cell_blk h1 0, cell_blk h2 0, (hW.cell (p := ⟨b, off + xv * 2 + 1, none⟩) hb).trans e1, cell_blk h2 1, (hW.cell (p := ⟨b', off' + xf * 4, none⟩) hb').trans hp.1⟩)
            have HMQ : Hid (∀ W, Below W5.heap.size W5 W → Mp.MapAt W bm es) := Lib.hid (fun W hW => HBI5.out.old.1.same (hW.block _ HBI5.out.old.1.lt))
            obtain ⟨d0, a0, n0, c0, hlk, hsl⟩ : ∃ d0 a0 n0 c0, Mp.look false (Mp.mget es cp) (.agg #[.int .i64 0, .slice none 0 0]) = .agg #[.int .i64 d0, .slice a0 n0 c0] ∧ Sl W5 3 (.slice a0 n0 c0) ((legsR R cp).map Lg.row) := by
              have h1 := HBI5.out.old.2 cp
              unfold legsR
              cases hq : R cp with
              | none =>
                rw [hq] at h1
                exact ⟨0, none, 0, 0, by rw [h1]; rfl, .inl ⟨rfl, none, 0, rfl, fun _ => rfl⟩⟩
              | some q =>
                rw [hq] at h1
                obtain ⟨a, n, c, h2, h3⟩ := h1
                exact ⟨q.1, a, n, c, by rw [h2]; rfl, h3⟩
            have HGT := Lib.hid hlk
            have HSL5 := Lib.hid hsl
            have HI5 := Lib.hid hW5
            clear hgc hsc hget hFx hx hxe hrl hb5 hb e0 e1 hcs hxc hcc hb' hp hlk hsl hnc hmem hitc hW5 hxf
            generalize cs.length = m at *
            simp only [Lg.cells] at hen ⊢
            go_wp2_with fail
            rw [← hlb, ← HI5.out]
            clear hen hlb
            refine Ord.region_lit (fun
              | 0 => Ord.val (.map (some bm))
              | 1 => Ord.val (.pointer (some ⟨bs, 0, none⟩))
              | 2 => Ord.val (.slice (some ⟨b, off, none⟩) l.length vc)
              | 3 => Ord.val (.pointer (some ⟨lb, 0, none⟩))
              | 4 => Ord.val (.int .i64 (xv : Int))
              | 5 => Ord.val (.pointer (some ⟨b, off + xv * 2, none⟩))
              | 6 => Ord.val (.pointer (some ⟨b, off + xv * 2 + 1, none⟩))
              | 7 => Ord.val (.slice (some ⟨b', off', none⟩) m cc)
              | 8 => Ord.val (.pointer (some ⟨lb, 1, none⟩))
              | 9 => Ord.val (.int .i64 (xf : Int))
              | 10 => Ord.val (.pointer (some ⟨b', off' + xf * 4, none⟩))
              | 11 => Ord.val (.pointer (some ⟨b', off' + xf * 4, none⟩))
              | 12 => Ord.val (.string cp)
              | 13 => Ord.val (.agg #[.int .i64 d0, .slice a0 n0 c0])
              | 14 => Ord.box 55 #[.int .i64 0, .slice none 0 0]
              | 15 => Ord.filled 55 #[.int .i64 d0, .slice a0 n0 c0] (.tmp 19) 14
              | _ => Ord.idle) (fun _ => False) (by kernel_rfl) (by kernel_rfl) (by kernel_rfl) ?_ ?_ ?_ ?_
            · intro i _
              match i with
              | 0 => exact Ord.lasts_val _
              | 1 => exact Ord.lasts_val _
              | 2 => exact Ord.lasts_val _
              | 3 => exact Ord.lasts_val _
              | 4 => exact Ord.lasts_val _
              | 5 => exact Ord.lasts_val _
              | 6 => exact Ord.lasts_val _
              | 7 => exact Ord.lasts_val _
              | 8 => exact Ord.lasts_val _
              | 9 => exact Ord.lasts_val _
              | 10 => exact Ord.lasts_val _
              | 11 => exact Ord.lasts_val _
              | 12 => exact Ord.lasts_val _
              | 13 => exact Ord.lasts_val _
              | 14 => exact Ord.lasts_box _ _
              | 15 => exact Ord.lasts_filled _ _ _ _
              | n + 16 => exact Ord.lasts_idle
            · refine ⟨fun k b _ hh => ?_, fun k b _ hh => ?_, fun k k' b _ _ hne h1 h2 => ?_⟩
              · match k, hh with
                | 0, hh => exact hh.elim
                | 1, hh => exact hh.elim
                | 2, hh => exact hh.elim
                | 3, hh => exact hh.elim
                | 4, hh => exact hh.elim
                | 5, hh => exact hh.elim
                | 6, hh => exact hh.elim
                | 7, hh => exact hh.elim
                | 8, hh => exact hh.elim
                | 9, hh => exact hh.elim
                | 10, hh => exact hh.elim
                | 11, hh => exact hh.elim
                | 12, hh => exact hh.elim
                | 13, hh => exact hh.elim
                | 14, hh => exact hh.elim
                | 15, hh => exact hh.elim
                | m + 16, hh => exact hh.elim
              · match k, hh with
                | 0, hh => exact hh.elim
                | 1, hh => exact hh.elim
                | 2, hh => exact hh.elim
                | 3, hh => exact hh.elim
                | 4, hh => exact hh.elim
                | 5, hh => exact hh.elim
                | 6, hh => exact hh.elim
                | 7, hh => exact hh.elim
                | 8, hh => exact hh.elim
                | 9, hh => exact hh.elim
                | 10, hh => exact hh.elim
                | 11, hh => exact hh.elim
                | 12, hh => exact hh.elim
                | 13, hh => exact hh.elim
                | 14, hh => exact hh.elim
                | 15, hh => exact hh.elim
                | m + 16, hh => exact hh.elim
              · match k, h1 with
                | 0, hh => exact hh.elim
                | 1, hh => exact hh.elim
                | 2, hh => exact hh.elim
                | 3, hh => exact hh.elim
                | 4, hh => exact hh.elim
                | 5, hh => exact hh.elim
                | 6, hh => exact hh.elim
                | 7, hh => exact hh.elim
                | 8, hh => exact hh.elim
                | 9, hh => exact hh.elim
                | 10, hh => exact hh.elim
                | 11, hh => exact hh.elim
                | 12, hh => exact hh.elim
                | 13, hh => exact hh.elim
                | 14, hh => exact hh.elim
                | 15, hh => exact hh.elim
                | m + 16, hh => exact hh.elim
            · refine ⟨?_, ?_, ?_, ?_, ?_, ?_, ?_, ?_, ?_, ?_, ?_, ?_, ?_, ?_, ?_, ?_, trivial⟩
              · refine Ord.owes_plain rfl fun ρ Os wo hs' hb hc' => ?_
                have h14 : ρ (.tmp 14) = .map (some bm) := hs'.old' 14 (by kernel_rfl)
                exact Any.ok_move (Ord.post_val rfl h14)
              · refine Ord.owes_plain rfl fun ρ Os wo hs' hb hc' => ?_
                have h13 : ρ (.tmp 13) = .pointer (some ⟨bs, 0, none⟩) := hs'.old' 13 (by kernel_rfl)
                go_simp
                exact Ord.post_val rfl rfl
              · refine Ord.owes_plain rfl fun ρ Os wo hs' hb hc' => ?_
                have h52 : ρ (.tmp 52) = .pointer (some ⟨bs, 0, none⟩) := hs'.val' 52 1 (by kernel_rfl) rfl
                have c0 := (HQ.out wo (hb.undrew.below (Nat.le_refl _) (fun _ _ h => h))).1
                go_simp
                exact Ord.post_val rfl rfl
              · refine Ord.owes_plain rfl fun ρ Os wo hs' hb hc' => ?_
                have h18 : ρ (.tmp 18) = .pointer (some ⟨lb, 0, none⟩) := hs'.old' 18 (by kernel_rfl)
                go_simp
                exact Ord.post_val rfl rfl
              · refine Ord.owes_plain rfl fun ρ Os wo hs' hb hc' => ?_
                have h54 : ρ (.tmp 54) = .pointer (some ⟨lb, 0, none⟩) := hs'.val' 54 3 (by kernel_rfl) rfl
                have c0 := (HQ.out wo (hb.undrew.below (Nat.le_refl _) (fun _ _ h => h))).2.1
                go_simp
                exact Ord.post_val rfl rfl
              · refine Ord.owes_plain rfl fun ρ Os wo hs' hb hc' => ?_
                have h53 : ρ (.tmp 53) = .slice (some ⟨b, off, none⟩) l.length vc := hs'.val' 53 2 (by kernel_rfl) rfl
                have h55 : ρ (.tmp 55) = .int .i64 (xv : Int) := hs'.val' 55 4 (by kernel_rfl) rfl
                go_simp
                exact Ord.post_val rfl rfl
              · refine Ord.owes_plain rfl fun ρ Os wo hs' hb hc' => ?_
                have h56 : ρ (.tmp 56) = .pointer (some ⟨b, off + xv * 2, none⟩) := hs'.val' 56 5 (by kernel_rfl) rfl
                go_simp
                exact Ord.post_val rfl rfl
              · refine Ord.owes_plain rfl fun ρ Os wo hs' hb hc' => ?_
                have h57 : ρ (.tmp 57) = .pointer (some ⟨b, off + xv * 2 + 1, none⟩) := hs'.val' 57 6 (by kernel_rfl) rfl
                have c0 := (HQ.out wo (hb.undrew.below (Nat.le_refl _) (fun _ _ h => h))).2.2.1
                go_simp
                exact Ord.post_val rfl rfl
              · refine Ord.owes_plain rfl fun ρ Os wo hs' hb hc' => ?_
                have h18 : ρ (.tmp 18) = .pointer (some ⟨lb, 0, none⟩) := hs'.old' 18 (by kernel_rfl)
                go_simp
                exact Ord.post_val rfl rfl
              · refine Ord.owes_plain rfl fun ρ Os wo hs' hb hc' => ?_
                have h59 : ρ (.tmp 59) = .pointer (some ⟨lb, 1, none⟩) := hs'.val' 59 8 (by kernel_rfl) rfl
                have c0 := (HQ.out wo (hb.undrew.below (Nat.le_refl _) (fun _ _ h => h))).2.2.2.1
                go_simp
                exact Ord.post_val rfl rfl
              · refine Ord.owes_plain rfl fun ρ Os wo hs' hb hc' => ?_
                have h58 : ρ (.tmp 58) = .slice (some ⟨b', off', none⟩) m cc := hs'.val' 58 7 (by kernel_rfl) rfl
                have h60 : ρ (.tmp 60) = .int .i64 (xf : Int) := hs'.val' 60 9 (by kernel_rfl) rfl
                go_simp
                exact Ord.post_val rfl rfl
              · refine Ord.owes_plain rfl fun ρ Os wo hs' hb hc' => ?_
                have h61 : ρ (.tmp 61) = .pointer (some ⟨b', off' + xf * 4, none⟩) := hs'.val' 61 10 (by kernel_rfl) rfl
                go_simp
                exact Ord.post_val rfl rfl
              · refine Ord.owes_plain rfl fun ρ Os wo hs' hb hc' => ?_
                have h62 : ρ (.tmp 62) = .pointer (some ⟨b', off' + xf * 4, none⟩) := hs'.val' 62 11 (by kernel_rfl) rfl
                have c0 := (HQ.out wo (hb.undrew.below (Nat.le_refl _) (fun _ _ h => h))).2.2.2.2
                go_simp
                exact Ord.post_val rfl rfl
              · refine Ord.owes_plain rfl fun ρ Os wo hs' hb hc' => ?_
                have h51 : ρ (.tmp 51) = .map (some bm) := hs'.val' 51 0 (by kernel_rfl) rfl
                have h63 : ρ (.tmp 63) = .string cp := hs'.val' 63 12 (by kernel_rfl) rfl
                refine Mp.ok_lookup (l := es) (key := cp) Tryd.underlying56 Tryd.underlying9 (zeroStop _) h51 h63 (HMQ.out wo (hb.undrew.below (Nat.le_refl _) (fun _ _ h => h))) ?_
                rw [HGT.out]
                exact Ord.post_val rfl rfl
              · refine Ord.owes_plain rfl fun ρ Os wo hs' hb hc' => ?_
                go_simp
                exact Ord.post_box rfl
              · refine Ord.owes_plain rfl fun ρ Os wo hs' hb hc' => ?_
                have h64 : ρ (.tmp 64) = .agg #[.int .i64 d0, .slice a0 n0 c0] := hs'.val' 64 13 (by kernel_rfl) rfl
                exact Ord.ok_filled (hs'.new' 19 14 (by kernel_rfl)) h64 (by kernel_rfl) rfl (by simp [Value.oneCell']) rfl
            · intro vals Os ρs w6 hk hkn hln hap hbd
              obtain ⟨bg, hp8, hbg, -⟩ := hkn 15 (by kernel_rfl)
              have h14 : vals 14 = .pointer (some ⟨bg, 0, none⟩) := (hln 15 19 14 (by kernel_rfl)).symm.trans hp8
              have hbb : Below W5.heap.size W5 w6 := hk.below (Nat.le_refl _) (fun _ _ h => h)
              have HG6 := Lib.hid hbg
              have HB6 := Lib.hid hbb
              clear hk hkn hln hap hbd hp8 hbg hbb
              simp only [Any.putAll]
              go_frame
              simp only [Nat.zero_add, Nat.reduceAdd]
              rw [h14]
              clear h14
              obtain ⟨w6', hw6⟩ : ∃ w6', w6' = w6 := ⟨_, rfl⟩
              have HBI6 := Lib.hid (HBI5.out.keep (Keep.of_below (F := fun _ => False) HB6.out) (fun _ _ h => h.elim) (fun h => h) (fun _ h => h.elim))
              have HNX6 := Lib.hid (HNX5.out.below HB6.out)
              have HIT6 := Lib.hid (HIT5.out.same (HB6.out.block _ HIT5.out.lt.1) (HB6.out.block _ HIT5.out.lt.2))
              have HLB6 := Lib.hid (blk HB6.out (lt_blk HLB5.out) HLB5.out)
              have HSL6 := Lib.hid (HSL5.out.below HB6.out (Nat.le_refl _))
              have HMN := Lib.hid HNX6.out.1
              have HS6 : Hid (∀ W, Keep (fun b => b = bn) w6 W → W.cell? ⟨bs, 0, none⟩ = some vv ∧ W.cell? ⟨bs, 1, none⟩ = some (.string fr) ∧ W.cell? ⟨bs, 2, none⟩ = some (.int .i64 cn)) := Lib.hid (fun W hk => by
                have h1 := hk.blk HBI6.out.box (fun e => map_ne HMN.out HBI6.out.box e)
                exact ⟨cell_blk h1 0, cell_blk h1 1, cell_blk h1 2⟩)
              have HX6 : Hid (∀ W, Keep (fun b => b = bn) w6 W → W.cell? ⟨lb, 0, none⟩ = some (.int .i64 (xv : Int)) ∧ W.cell? ⟨lb, 1, none⟩ = some (.int .i64 (xf : Int)) ∧ W.cell? ⟨lb, 2, none⟩ = some (.int .i64 (xt : Int))) := Lib.hid (fun W hk => by
                have h1 := hk.blk HLB6.out (fun e => map_ne HMN.out HLB6.out e)
                exact ⟨cell_blk h1 0, cell_blk h1 1, cell_blk h1 2⟩)
              have HL6 : Hid (∀ W, Keep (fun b => b = bn) w6 W → W.cell? ⟨bg, 1, none⟩ = some (.slice a0 n0 c0)) := Lib.hid (fun W hk => cell_blk (hk.blk HG6.out (fun e => map_ne HMN.out HG6.out e)) 1)
              have HAR : Hid (∀ W, Keep (fun b => b = bn) w6 W → Calls Tryd.prog 31 #[.agg #[vv, .string fr, .int .i64 cn], .agg #[.int .i64 (xv : Int), .int .i64 (xf : Int), .int .i64 (xt : Int)]] W (Ret W (.agg #[.string ep, .int .i64 eu, .int .i64 ea, .int .i64 ed]))) := Lib.hid (fun W hk => arrive_any V vv fr cn ⟨xv, xf, xt⟩ ⟨ep, eu, ea, ed⟩ W (vs_keepNC HBI6.out.vs hk (fun b o e h => by subst e; exact map_nc HMN.out h)) HARC.out)
              have HCK : Hid (∀ W, Keep (fun b => b = bn) w6 W → Calls Tryd.prog 32 #[.slice a0 n0 c0] W (RetRow W 37 3 (legsR R cp).length (lgCells (legsR R cp)))) := Lib.hid (fun W hk => cloneLg_any (legsR R cp) _ W (Sl.keepNC HSL6.out hk (fun b o e h => by subst e; exact map_nc HMN.out h)) (by have := HLEN.out; omega))
              have HLL : Hid ((legsR R cp).length + 1 ≤ maxLen ∧ ((legsR R cp).length + 1) * 24 ≤ 140737488355328) := Lib.hid (by have := HLEN.out; simp only [maxLen]; omega)
              have HDI := Lib.hid (And.intro HBI6.out (And.intro HNX6.out HIT6.out))
              clear hw6 w6'
              go_wp2_with fail
              refine Ord.region_lit (fun
                | 0 => Ord.val (.map (some bn))
                | 1 => Ord.val (.string key)
                | 2 => Ord.val (.agg #[vv, .string fr, .int .i64 cn])
                | 3 => Ord.val (.agg #[.int .i64 (xv : Int), .int .i64 (xf : Int), .int .i64 (xt : Int)])
                | 4 => Ord.val (.agg #[.string ep, .int .i64 eu, .int .i64 ea, .int .i64 ed])
                | 5 => Ord.val (.int .i64 ea)
                | 6 => Ord.val (.pointer (some ⟨bg, 1, none⟩))
                | 7 => Ord.val (.slice a0 n0 c0)
                | 8 => Ord.own 0 37 3 ((legsR R cp).length) (lgCells (legsR R cp)) []
                | 9 => Ord.val (.agg #[.int .i64 (xv : Int), .int .i64 (xf : Int), .int .i64 (xt : Int)])
                | 10 => Ord.one 37 #[.int .i64 (xv : Int), .int .i64 (xf : Int), .int .i64 (xt : Int)]
                | 11 => Ord.own 0 37 3 ((legsR R cp).length + 1) (lgCells (legsR R cp) ++ [.int .i64 (xv : Int), .int .i64 (xf : Int), .int .i64 (xt : Int)]) [8]
                | 12 => Ord.Spec.mk (fun _ v O w => ∃ s, v = .agg #[.int .i64 ea, s] ∧ w.ownsRow 0 37 3 s ((legsR R cp).length + 1) (lgCells (legsR R cp) ++ [.int .i64 (xv : Int), .int .i64 (xf : Int), .int .i64 (xt : Int)]) ∧ ∀ b, O b ↔ s.ownBlock = some b) [11] (fun _ => False)
                | 13 => Ord.Spec.mk (fun _ _ O w => ∃ s, w.ownsRow 0 37 3 s ((legsR R cp).length + 1) (lgCells (legsR R cp) ++ [.int .i64 (xv : Int), .int .i64 (xf : Int), .int .i64 (xt : Int)]) ∧ Mp.MapAt w bn (Mp.mput nes key (.agg #[.int .i64 ea, s])) ∧ ∀ b, O b ↔ (b = bn ∨ s.ownBlock = some b)) [12] (fun b => b = bn)
                | _ => Ord.idle) (fun b => b = bn) (by kernel_rfl) (by kernel_rfl) (by kernel_rfl) ?_ ?_ ?_ ?_
              · intro i _
                match i with
                | 0 => exact Ord.lasts_val _
                | 1 => exact Ord.lasts_val _
                | 2 => exact Ord.lasts_val _
                | 3 => exact Ord.lasts_val _
                | 4 => exact Ord.lasts_val _
                | 5 => exact Ord.lasts_val _
                | 6 => exact Ord.lasts_val _
                | 7 => exact Ord.lasts_val _
                | 8 => exact Ord.lasts_own _ _ _ _ _ _
                | 9 => exact Ord.lasts_val _
                | 10 => exact Ord.lasts_one _ _
                | 11 => exact Ord.lasts_own _ _ _ _ _ _
                | 12 => exact ⟨fun _ v O w h b hb => by
                    obtain ⟨s, h1, h2, h3⟩ := h
                    exact (h2.lt b ((h3 b).1 hb)).2, fun _ v O w w' h _ _ _ hs => by
                    obtain ⟨s, h1, h2, h3⟩ := h
                    exact ⟨s, h1, Any.ownsRow_same h2 (fun b hb => hs b ((h3 b).2 hb)), h3⟩⟩
                | 13 => exact ⟨fun _ v O w h b hb => by
                    obtain ⟨s, h1, h2, h3⟩ := h
                    rcases (h3 b).1 hb with rfl | h4
                    · exact h2.lt
                    · exact (h1.lt b h4).2, fun _ v O w w' h _ _ _ hs => by
                    obtain ⟨s, h1, h2, h3⟩ := h
                    exact ⟨s, Any.ownsRow_same h1 (fun b hb => hs b ((h3 b).2 (.inr hb))), h2.same (hs bn ((h3 bn).2 (.inl rfl))), h3⟩⟩
                | n + 14 => exact Ord.lasts_idle
              · refine ⟨fun k b _ hh => ?_, fun k b _ hh => ?_, fun k k' b _ _ hne h1 h2 => ?_⟩
                · match k, hh with
                  | 0, hh => exact hh.elim
                  | 1, hh => exact hh.elim
                  | 2, hh => exact hh.elim
                  | 3, hh => exact hh.elim
                  | 4, hh => exact hh.elim
                  | 5, hh => exact hh.elim
                  | 6, hh => exact hh.elim
                  | 7, hh => exact hh.elim
                  | 8, hh => exact hh.elim
                  | 9, hh => exact hh.elim
                  | 10, hh => exact hh.elim
                  | 11, hh => exact hh.elim
                  | 12, hh => exact hh.elim
                  | 13, hh => exact hh
                  | m + 14, hh => exact hh.elim
                · match k, hh with
                  | 0, hh => exact hh.elim
                  | 1, hh => exact hh.elim
                  | 2, hh => exact hh.elim
                  | 3, hh => exact hh.elim
                  | 4, hh => exact hh.elim
                  | 5, hh => exact hh.elim
                  | 6, hh => exact hh.elim
                  | 7, hh => exact hh.elim
                  | 8, hh => exact hh.elim
                  | 9, hh => exact hh.elim
                  | 10, hh => exact hh.elim
                  | 11, hh => exact hh.elim
                  | 12, hh => exact hh.elim
                  | 13, hh => exact hh ▸ HMN.out.lt
                  | m + 14, hh => exact hh.elim
                · have a : (k = 13 ∧ (fun b => b = bn) b) := by
                    match k, h1 with
                    | 0, hh => exact hh.elim
                    | 1, hh => exact hh.elim
                    | 2, hh => exact hh.elim
                    | 3, hh => exact hh.elim
                    | 4, hh => exact hh.elim
                    | 5, hh => exact hh.elim
                    | 6, hh => exact hh.elim
                    | 7, hh => exact hh.elim
                    | 8, hh => exact hh.elim
                    | 9, hh => exact hh.elim
                    | 10, hh => exact hh.elim
                    | 11, hh => exact hh.elim
                    | 12, hh => exact hh.elim
                    | 13, hh => exact ⟨rfl, hh⟩
                    | m + 14, hh => exact hh.elim
                  have a' : (k' = 13 ∧ (fun b => b = bn) b) := by
                    match k', h2 with
                    | 0, hh => exact hh.elim
                    | 1, hh => exact hh.elim
                    | 2, hh => exact hh.elim
                    | 3, hh => exact hh.elim
                    | 4, hh => exact hh.elim
                    | 5, hh => exact hh.elim
                    | 6, hh => exact hh.elim
                    | 7, hh => exact hh.elim
                    | 8, hh => exact hh.elim
                    | 9, hh => exact hh.elim
                    | 10, hh => exact hh.elim
                    | 11, hh => exact hh.elim
                    | 12, hh => exact hh.elim
                    | 13, hh => exact ⟨rfl, hh⟩
                    | m + 14, hh => exact hh.elim
                  rcases a with ⟨rfl, a⟩ <;> rcases a' with ⟨rfl, a'⟩
                  all_goals first | exact absurd rfl hne | (exact hne rfl)
              · refine ⟨?_, ?_, ?_, ?_, ?_, ?_, ?_, ?_, ?_, ?_, ?_, ?_, ?_, ?_, trivial⟩
                · refine Ord.owes_plain rfl fun ρ Os wo hs' hb hc' => ?_
                  have h16 : ρ (.tmp 16) = .map (some bn) := hs'.old' 16 (by kernel_rfl)
                  exact Any.ok_move (Ord.post_val rfl h16)
                · refine Ord.owes_plain rfl fun ρ Os wo hs' hb hc' => ?_
                  have h17 : ρ (.tmp 17) = .string key := hs'.old' 17 (by kernel_rfl)
                  exact Any.ok_move (Ord.post_val rfl h17)
                · refine Ord.owes_plain rfl fun ρ Os wo hs' hb hc' => ?_
                  have h13 : ρ (.tmp 13) = .pointer (some ⟨bs, 0, none⟩) := hs'.old' 13 (by kernel_rfl)
                  obtain ⟨c0, c1, c2⟩ := HS6.out wo hb.undrew
                  go_simp
                  exact Ord.post_val rfl rfl
                · refine Ord.owes_plain rfl fun ρ Os wo hs' hb hc' => ?_
                  have h18 : ρ (.tmp 18) = .pointer (some ⟨lb, 0, none⟩) := hs'.old' 18 (by kernel_rfl)
                  obtain ⟨c0, c1, c2⟩ := HX6.out wo hb.undrew
                  go_simp
                  exact Ord.post_val rfl rfl
                · refine Ord.owes_plain rfl fun ρ Os wo hs' hb hc' => ?_
                  have h67 : ρ (.tmp 67) = .agg #[vv, .string fr, .int .i64 cn] := hs'.val' 67 2 (by kernel_rfl) rfl
                  have h68 : ρ (.tmp 68) = .agg #[.int .i64 (xv : Int), .int .i64 (xf : Int), .int .i64 (xt : Int)] := hs'.val' 68 3 (by kernel_rfl) rfl
                  have hf := hs'.func 31
                  go_simp
                  exact (HAR.out wo hb.undrew).mono fun e w' ⟨he, hb'⟩ => ⟨_, he, Ord.post_vals rfl rfl hb'⟩
                · refine Ord.owes_plain rfl fun ρ Os wo hs' hb hc' => ?_
                  have h69 : ρ (.tmp 69) = .agg #[.string ep, .int .i64 eu, .int .i64 ea, .int .i64 ed] := hs'.val' 69 4 (by kernel_rfl) rfl
                  go_simp
                  exact Ord.post_val rfl rfl
                · refine Ord.owes_plain rfl fun ρ Os wo hs' hb hc' => ?_
                  have h19 : ρ (.tmp 19) = .pointer (some ⟨bg, 0, none⟩) := hs'.old' 19 (by kernel_rfl)
                  go_simp
                  exact Ord.post_val rfl rfl
                · refine Ord.owes_plain rfl fun ρ Os wo hs' hb hc' => ?_
                  have h71 : ρ (.tmp 71) = .pointer (some ⟨bg, 1, none⟩) := hs'.val' 71 6 (by kernel_rfl) rfl
                  have c0 := HL6.out wo hb.undrew
                  go_simp
                  exact Ord.post_val rfl rfl
                · refine Ord.owes_plain rfl fun ρ Os wo hs' hb hc' => ?_
                  have h72 : ρ (.tmp 72) = .slice a0 n0 c0 := hs'.val' 72 7 (by kernel_rfl) rfl
                  have hf := hs'.func 32
                  have hf := hs'.func 32
                  go_simp
                  exact (HCK.out wo hb.undrew).mono fun e w' ⟨v', he, ho', hb'⟩ => ⟨v', he, Ord.post_new ⟨ownsRow_base ho' (Nat.zero_le _), fun b => Iff.rfl⟩ hb' (fun b h => (ho'.lt b h).1)⟩
                · refine Ord.owes_plain rfl fun ρ Os wo hs' hb hc' => ?_
                  have h18 : ρ (.tmp 18) = .pointer (some ⟨lb, 0, none⟩) := hs'.old' 18 (by kernel_rfl)
                  obtain ⟨c0, c1, c2⟩ := HX6.out wo hb.undrew
                  go_simp
                  exact Ord.post_val rfl rfl
                · refine Ord.owes_plain rfl fun ρ Os wo hs' hb hc' => ?_
                  have h74 : ρ (.tmp 74) = .agg #[.int .i64 (xv : Int), .int .i64 (xf : Int), .int .i64 (xt : Int)] := hs'.val' 74 9 (by kernel_rfl) rfl
                  go_simp
                  exact Ord.post_one rfl
                · refine Ord.owes_plain rfl fun ρ Os wo hs' hb hc' => ?_
                  obtain ⟨_, g, hg, hgb, -⟩ := hs'.new' 75 10 (by kernel_rfl)
                  exact Ord.ok_own_append Tryd.underlying26 HI.out.1 HI.out.2.1 HI.out.2.2.1 HI.out.2.2.2 rfl (by decide) (hs'.new' 73 8 (by kernel_rfl)) (by rw [hg]; exact src_block hgb rfl) (lg_one ⟨xv, xf, xt⟩) HLL.out.1 HLL.out.2 (Nat.zero_le _) List.mem_cons_self rfl
                · refine Ord.owes_plain rfl fun ρ Os wo hs' hb hc' => ?_
                  have h70 : ρ (.tmp 70) = .int .i64 ea := hs'.val' 70 5 (by kernel_rfl) rfl
                  obtain ⟨-, hr1, hr2⟩ := hs'.new' 76 11 (by kernel_rfl)
                  obtain ⟨g7, c7, hv⟩ := ownsRow_succ hr1
                  rw [hv] at hr1 hr2
                  go_simp
                  exact ⟨fun b => (Value.slice (some ⟨g7, 0, none⟩) ((legsR R cp).length + 1) c7).ownBlock = some b, ⟨_, rfl, hr1, fun _ => Iff.rfl⟩, ⟨rfl, rfl, rfl⟩, Nat.le_refl _, fun _ _ _ _ => rfl, fun b hb => .inl ⟨11, List.mem_cons_self, (hr2 b).2 hb⟩⟩
                · refine Ord.owes_plain rfl fun ρ Os wo hs' hb hc' => ?_
                  have h65 : ρ (.tmp 65) = .map (some bn) := hs'.val' 65 0 (by kernel_rfl) rfl
                  have h66 : ρ (.tmp 66) = .string key := hs'.val' 66 1 (by kernel_rfl) rfl
                  obtain ⟨-, s, hv, hr1, hr2⟩ := hs'.new' 77 12 (by kernel_rfl)
                  have hmap : Mp.MapAt wo bn nes := HMN.out.same (hs'.here bn rfl)
                  refine Mp.ok_update (key := key) (v := .agg #[.int .i64 ea, s]) Tryd.underlying56 Tryd.underlying9 h65 h66 hv hmap fun w' h1 h2 h3 => ?_
                  refine ⟨fun b => b = bn ∨ s.ownBlock = some b, ⟨s, Any.ownsRow_same hr1 (fun b hob => h2.block b (hr1.lt b hob).2 (fun e => ?_)), h1, fun _ => Iff.rfl⟩, ⟨h2.os, h2.tape, h2.output⟩, h2.size, fun b hlt _ hne => h2.block b hlt (fun e => hne (Option.some.inj e)), fun b hb => ?_⟩
                  · exact row_ne_mapP hr1 hmap (hob.trans e)
                  · rcases hb with rfl | hb
                    · exact .inr (.inr rfl)
                    · exact .inl ⟨12, List.mem_singleton.2 rfl, (hr2 b).2 hb⟩
              · intro vals Os ρs w7 hk hkn hln hap hbd
                obtain ⟨s, k1, k2, k3⟩ := hkn 13 (by kernel_rfl)
                have HK7 := Lib.hid hk
                have K1 := Lib.hid k1
                have K2 := Lib.hid k2
                clear hkn hln hap hbd hk k1 k2 k3
                simp only [Any.putAll]
                go_frame
                go_wp2_with fail
                go_roundw
                case rel =>
                  have hnc : ∀ b o, b = bn → w6.heap[b]? = some o → o.isCells = false := fun b o e h => by subst e; exact map_nc HMN.out h
                  refine ⟨Mp.mput nes key (.agg #[.int .i64 ea, s]), Mp.mdel todo key, ⟨HDI.out.1.keep HK7.out hnc HDN.out.1 (fun b e => by subst e; exact HDN.out.2.1), step_R HDI.out.2.1 HK7.out K1.out K2.out HST.out.1 HST.out.2, IterAt.keep HDI.out.2.2 HK7.out HDN.out.2.2.1 HDN.out.2.2.2⟩, ?_, ?_⟩
                  · intro q hq
                    exact HSUB.out q (List.mem_filter.1 hq).1
                  · exact Mp.mdel_keys_nodup key HND.out
                case measure =>
                  rw [Mp.itLeft_eq (IterAt.keep HDI.out.2.2 HK7.out HDN.out.2.2.1 HDN.out.2.2.2), Mp.itLeft_eq HIT0.out]
                  exact Mp.mdel_lt HTD.out
end Go.Proofs.YtbmjficiceiekaaDoor.Sc
