/- A receipt passed on, by the program. -/
import Derived.Test.YticnmmfiadpbbaaGreatOwnH25
namespace Go.Proofs.YticnmmfiadpbbaaGreat.Sc
open Go Go.RowKit Go.ChangeShapes Go.WideShapes Go.ChangeAt
set_option maxRecDepth 100000

theorem zeroRc (w : World) : (zeroValue 34).run Tryz.prog w = .ok (.agg #[.string ⟨#[]⟩, .string ⟨#[]⟩, .string ⟨#[]⟩, .slice none 0 0, .int .i64 0]) w := by kernel_rfl
def holdOf (h : Hs) (n : ByteArray) : ByteArray := match rfind h.L n with
  | none => ⟨#[]⟩
  | some r => r.hold
def thereB (h : Hs) (n : ByteArray) : Bool := (rfind h.L n).isSome
theorem ow1 (t : Bool) (b8 : Nat) (W : World) (h8 : B1 W b8 (.bool t) 4) : Calls Tryz.prog 63 #[.pointer (some ⟨b8, 0, none⟩)] W (RetB W (!t)) := by
  have c8 := cell_blk h8 0
  simp only [List.getElem?_toArray, List.getElem?_cons_zero] at c8
  go_enter Tryz.func63, Tryz.ntmps63
  go_wp2
  go_ret
  exact retB rfl (Below.refl _ _)
theorem five_blk {w : World} {b : Nat} {x0 x1 x2 x3 x4 : Value} {T : TypeId} {fr : Nat × Nat} (h : w.heap[b]? = some (.cells #[x0, x1, x2, x3, x4] T fr)) : w.cell? ⟨b, 0, none⟩ = some x0 ∧ w.cell? ⟨b, 1, none⟩ = some x1 ∧ w.cell? ⟨b, 2, none⟩ = some x2 ∧ w.cell? ⟨b, 3, none⟩ = some x3 ∧ w.cell? ⟨b, 4, none⟩ = some x4 :=
  ⟨cell_blk h 0, cell_blk h 1, cell_blk h 2, cell_blk h 3, cell_blk h 4⟩
theorem ow2 (o b : ByteArray) (b7 b5 : Nat) (x0 x1 x3 x4 : Value) (W : World) (h7 : W.heap[b7]? = some (.cells #[x0, x1, .string o, x3, x4] 34 (0, 0))) (h5 : B1 W b5 (.string b) 9) :
    Calls Tryz.prog 64 #[.pointer (some ⟨b7, 0, none⟩), .pointer (some ⟨b5, 0, none⟩)] W (RetB W (!decide (o = b))) := by
  obtain ⟨-, -, c2, -⟩ := five_blk h7
  have c5 := cell_blk h5 0
  simp only [List.getElem?_toArray, List.getElem?_cons_zero] at c5
  have e := str_beq o b
  generalize decide (o = b) = t at *
  go_enter Tryz.func64, Tryz.ntmps64
  go_wp2
  go_ret
  exact retB (by rw [← e]) (Below.refl _ _)
/-- What the two checks of an owner lie over. -/
def OwnedAt (W : World) (h : Hs) (n b : ByteArray) (b5 b7 b8 : Nat) : Prop :=
  B1 W b8 (.bool (thereB h n)) 4 ∧ (∃ x0 x1 x3 x4, W.heap[b7]? = some (.cells #[x0, x1, .string (holdOf h n), x3, x4] 34 (0, 0))) ∧ B1 W b5 (.string b) 9
theorem OwnedAt.below {W W' : World} {h : Hs} {n b : ByteArray} {b5 b7 b8 : Nat} (o : OwnedAt W h n b b5 b7 b8) (hb : Below W.heap.size W W') : OwnedAt W' h n b b5 b7 b8 := by
  obtain ⟨h1, ⟨x0, x1, x3, x4, h2⟩, h3⟩ := o
  exact ⟨blk hb (lt_blk h1) h1, ⟨x0, x1, x3, x4, blk hb (lt_blk h2) h2⟩, blk hb (lt_blk h3) h3⟩
theorem OwnedAt.grown {w0 w1 w2 : World} {o : Obj} {h : Hs} {n b : ByteArray} {b5 b7 b8 m : Nat} {v : Value} {xs : List Value} (O : OwnedAt w1 h n b b5 b7 b8) (ho : w1.ownsRow w0.heap.size 71 2 v m xs)
    (hb : Below w1.heap.size w1 (w1.alloc o)) (hg : (w1.alloc o).grownBy w2 v.ownBlock) : OwnedAt w2 h n b b5 b7 b8 := by
  have hne : ∀ {q : Nat} {cs : Array Value} {T : TypeId}, w1.heap[q]? = some (.cells cs T (0, 0)) → T ≠ 71 → w2.heap[q]? = some (.cells cs T (0, 0)) := fun {q cs T} hq hT => by
    have h1 := blk hb (lt_blk hq) hq
    refine (hg.block q (lt_blk h1) fun e => ?_).trans h1
    rcases ho.2 with ⟨hv, _⟩ | ⟨g, cap, cur, hv, _, hh, _⟩
    · rw [hv] at e; cases e
    · rw [hv] at e
      obtain rfl : q = g := Option.some.inj e
      rw [hq] at hh
      simp only [Option.some.injEq, Obj.cells.injEq] at hh
      exact hT hh.2.1
  obtain ⟨h1, ⟨x0, x1, x3, x4, h2⟩, h3⟩ := O
  exact ⟨hne h1 (by decide), ⟨x0, x1, x3, x4, hne h2 (by decide)⟩, hne h3 (by decide)⟩
theorem OwnedAt.calls {W : World} {h : Hs} {n b : ByteArray} {b5 b7 b8 : Nat} (o : OwnedAt W h n b b5 b7 b8) : Calls Tryz.prog 63 #[.pointer (some ⟨b8, 0, none⟩)] W (RetB W (!thereB h n)) ∧
    Calls Tryz.prog 64 #[.pointer (some ⟨b7, 0, none⟩), .pointer (some ⟨b5, 0, none⟩)] W (RetB W (!decide (holdOf h n = b))) := by
  obtain ⟨h1, ⟨x0, x1, x3, x4, h2⟩, h3⟩ := o
  exact ⟨ow1 _ _ W h1, ow2 _ _ _ _ _ _ _ _ W h2 h3⟩
def owCode : Nat → Int := sel 4 8 0 0 0 0
def owFn : Nat → FuncId := sel 63 64 0 0 0 0
def owCap (b5 b7 b8 : Nat) : Nat → Array Value := sel #[.pointer (some ⟨b8, 0, none⟩)] #[.pointer (some ⟨b7, 0, none⟩), .pointer (some ⟨b5, 0, none⟩)] #[] #[] #[] #[]
def OwnedP (w : World) (h : Hs) (n b : ByteArray) (e : Ending) (w' : World) : Prop :=
  Below w.heap.size w w' ∧ ∃ b5 b7 b8 v, e = .returned v ∧ w'.ownsRow w.heap.size 71 2 v 2 (ckCells owCode owFn (owCap b5 b7 b8) 2) ∧ OwnedAt w' h n b b5 b7 b8
set_option maxHeartbeats 4000000 in
theorem owned_any {bh bm bu : Nat} {h : Hs} (n b : ByteArray) (w : World) (H : Hsx w bh bm bu h) : Calls Tryz.prog 35 #[.pointer (some ⟨bh, 0, none⟩), .string n, .string b] w (OwnedP w h n b) := by
  obtain ⟨es, us, H⟩ := H
  obtain ⟨x, t, hx, ht, hg⟩ : ∃ (x : Array Value) (t : Bool), (∃ c0 c1 a3 n3 c3 c4, x = #[.string c0, .string c1, .string (holdOf h n), .slice a3 n3 c3, .int .i64 c4]) ∧ t = thereB h n ∧ Mp.look true (Mp.mget es n) (.agg #[.string ⟨#[]⟩, .string ⟨#[]⟩, .string ⟨#[]⟩, .slice none 0 0, .int .i64 0]) = .tuple #[.agg x, .bool t] := by
    unfold holdOf thereB
    cases hr : rfind h.L n with
    | none => exact ⟨_, false, ⟨_, _, _, _, _, _, rfl⟩, rfl, by rw [H.miss n hr]; rfl⟩
    | some r =>
      obtain ⟨lv, h1, h2⟩ := H.hit n r hr
      obtain ⟨a3, c3, e3⟩ := h2.shape
      subst e3
      exact ⟨Rv.cells ⟨r, _⟩, true, ⟨_, _, _, _, _, _, rfl⟩, rfl, by rw [h1]; rfl⟩
  obtain ⟨c0, c1, a3, n3, c3, c4, rfl⟩ := hx
  have HG := Lib.hid hg
  have HTB := Lib.hid ht
  have k1 := cell_blk H.box 1
  simp only [List.getElem?_toArray, List.getElem?_cons_succ, List.getElem?_cons_zero] at k1
  have HBX := Lib.hid H.box
  have HRM := Lib.hid H.rm
  obtain ⟨o, ho⟩ : ∃ o, o = holdOf h n := ⟨_, rfl⟩
  rw [← ho] at HG
  have HO := Lib.hid ho
  have HA := Lib.hid (allocs [.cells #[.string b] 9, .cells #[.string c0, .string c1, .string o, .slice a3 n3 c3, .int .i64 c4] 34, .cells #[.bool t] 4,
    .cells #[.int .i64 4, .func (.func 63) #[] #[.pointer (some ⟨w.heap.size + 2, 0, none⟩)], .int .i64 8, .func (.func 64) #[] #[.pointer (some ⟨w.heap.size + 1, 0, none⟩), .pointer (some ⟨w.heap.size, 0, none⟩)]] 71] w)
  have HX0 := Lib.hid (one_below w (.cells #[.string b] 9))
  have k2 := cell_blk (blk HX0.out (lt_blk HBX.out) HBX.out) 1
  simp only [List.getElem?_toArray, List.getElem?_cons_succ, List.getElem?_cons_zero] at k2
  clear hg ht H ho k1
  go_enter Tryz.func35, Tryz.ntmps35
  go_wp2_with (first
    | ((with_reducible refine Mp.wpl_lookup (l := es) (key := n) ?_ ?_ ?_ Tryz.underlying58 Tryz.underlying9 (zeroRc _) (HRM.out.same (HX0.out.block _ HRM.out.lt)) ?_); rfl; rfl; rfl; rw [HG.out])
    | fail)
  go_ret
  obtain ⟨hb, hz, hx⟩ := HA.out
  refine ⟨hb, w.heap.size, w.heap.size + 1, w.heap.size + 2, _, rfl, ?_, ?_, ?_, ?_⟩
  · refine ⟨rfl, .inr ⟨w.heap.size + 3, 2, _, rfl, by omega, hx 3 _ rfl, by omega, by simp [maxLen], rfl, rfl⟩⟩
  · rw [← HTB.out]; exact hx 2 _ rfl
  · rw [← HO.out]; exact ⟨_, _, _, _, hx 1 _ rfl⟩
  · exact hx 0 _ rfl
set_option maxHeartbeats 1000000 in
theorem pass1 (to' b : ByteArray) (b7 b6 : Nat) (W : World) (h7 : B1 W b7 (.string to') 9) (h6 : B1 W b6 (.string b) 9) :
    Calls Tryz.prog 79 #[.pointer (some ⟨b7, 0, none⟩), .pointer (some ⟨b6, 0, none⟩)] W (RetB W (!nameOk to' || decide (to' = b))) := by
  have HN := Lib.hid (fun W => rcName_any to' W)
  have H7 := Lib.hid h7
  have H6 := Lib.hid h6
  have c7 := cell_blk h7 0
  simp only [List.getElem?_toArray, List.getElem?_cons_zero] at c7
  have HE := Lib.hid (str_beq to' b)
  generalize decide (to' = b) = t at *
  generalize nameOk to' = P at *
  clear h7 h6
  cases P
  · go_enter Tryz.func79, Tryz.ntmps79
    go_wp2_with (first
      | ((with_reducible refine (HN.out _).mono ?_); rintro e w1 ⟨rfl, hb1⟩; have HB1 := Lib.hid hb1; clear hb1)
      | fail)
    go_ret
    exact retB rfl HB1.out
  · go_enter Tryz.func79, Tryz.ntmps79
    go_wp2_with (first
      | ((with_reducible refine (HN.out _).mono ?_); rintro e w1 ⟨rfl, hb1⟩; have HB1 := Lib.hid hb1; have d7 := cell_blk (blk hb1 (lt_blk H7.out) H7.out) 0; have d6 := cell_blk (blk hb1 (lt_blk H6.out) H6.out) 0; simp only [List.getElem?_toArray, List.getElem?_cons_zero] at d7 d6; clear hb1)
      | fail)
    go_ret
    exact retB (by rw [← HE.out]; simp) HB1.out
theorem ps_ent (args : Array Value) (w : World) : (callFunc 79 args).run Tryz.prog w = .ok (.enter 79 args) w := enters_of Tryz.func79 (by kernel_rfl) rfl args w
theorem ow_ent1 (args : Array Value) (w : World) : (callFunc 63 args).run Tryz.prog w = .ok (.enter 63 args) w := enters_of Tryz.func63 (by kernel_rfl) rfl args w
theorem ow_ent2 (args : Array Value) (w : World) : (callFunc 64 args).run Tryz.prog w = .ok (.enter 64 args) w := enters_of Tryz.func64 (by kernel_rfl) rfl args w
theorem ownC_eq (h : Hs) (n b : ByteArray) : ownC h n b = (if (!thereB h n) = true then 4 else if (!decide (holdOf h n = b)) = true then 8 else 0) := by
  unfold ownC thereB holdOf
  cases rfind h.L n with
  | none => rfl
  | some r =>
    show (if r.hold = b then (0 : Int) else 8) = (if (!true) = true then 4 else if (!decide (r.hold = b)) = true then 8 else 0)
    by_cases hb : r.hold = b
    · rw [if_pos hb, decide_eq_true hb]; rfl
    · rw [if_neg hb, decide_eq_false hb]; rfl
def ps1 (h : Hs) (n b to' : ByteArray) : Nat → Bool := sel (!thereB h n) (!decide (holdOf h n = b)) (!nameOk to' || decide (to' = b)) false false false
theorem ps_code (h : Hs) (n b to' : ByteArray) : firstFrom (sel 4 8 1 0 0 0) (ps1 h n b to') 3 0 = passC h n b to' := by
  unfold passC
  rw [ownC_eq]
  show (if (!thereB h n) = true then (4 : Int) else if (!decide (holdOf h n = b)) = true then 8 else if (!nameOk to' || decide (to' = b)) = true then 1 else 0) = _
  generalize (!nameOk to' || decide (to' = b)) = x
  generalize (!thereB h n) = p
  generalize (!decide (holdOf h n = b)) = q
  cases p <;> cases q <;> cases x <;> rfl
/-- The first of an owner's checks and one more. -/
def psFn : Nat → FuncId := sel 63 64 79 0 0 0
def psCap (b5 b7 b8 p q : Nat) : Nat → Array Value := sel #[.pointer (some ⟨b8, 0, none⟩)] #[.pointer (some ⟨b7, 0, none⟩), .pointer (some ⟨b5, 0, none⟩)] #[.pointer (some ⟨p, 0, none⟩), .pointer (some ⟨q, 0, none⟩)] #[] #[] #[]
set_option maxHeartbeats 4000000 in
theorem passH_any {k bh bm bu : Nat} {h : Hs} (n b to' : ByteArray) (w : World) (H : Hsx w bh bm bu h) (hok : HsOk k h) :
    Calls Tryz.prog 55 #[.pointer (some ⟨bh, 0, none⟩), .string n, .string b, .string to'] w (HsP w bh bm bu (passH h n b to') (passC h n b to')) := by
  have HA := allocs [.cells #[.string b] 9, .cells #[.string to'] 9] w
  simp only [List.foldl_cons, List.foldl_nil, List.length_cons, List.length_nil] at HA
  obtain ⟨W0, hW0⟩ : ∃ W, W = ((w.alloc (.cells #[.string b] 9)).alloc (.cells #[.string to'] 9)) := ⟨_, rfl⟩
  rw [← hW0] at HA
  obtain ⟨hb, hz, hx⟩ := HA
  have x0 : B1 W0 w.heap.size _ _ := hx 0 _ rfl
  have x1 : B1 W0 (w.heap.size + 1) _ _ := hx 1 _ rfl
  have c0 := cell_blk x0 0
  simp only [List.getElem?_toArray, List.getElem?_cons_zero] at c0
  have HX0 := Lib.hid x0
  have HX1 := Lib.hid x1
  have HB := Lib.hid hb
  have HZ := Lib.hid hz
  have HH0 : Hid (Hsx W0 bh bm bu h) := Lib.hid (H.below hb)
  have HOW := Lib.hid (owned_any n b W0 HH0.out)
  obtain ⟨i0, hi, hz', hsz, hby⟩ := info_parts infoCk
  have HI := Lib.hid (And.intro hi (And.intro hz' (And.intro hsz hby)))
  have HOK := Lib.hid hok
  have HPC := Lib.hid (ps_code h n b to')
  have HPH : Hid (passC h n b to' ≠ 0 → passH h n b to' = h) := Lib.hid (fun h0 => if_neg h0)
  have HPS : Hid (passC h n b to' = 0 → ∃ r, rfind h.L n = some r ∧ passH h n b to' = ⟨h.name, rput (rdel h.L n) ⟨r.num, r.house, to', r.lots, r.day⟩, h.used⟩) := Lib.hid (fun h0 => by
    have h1 := h0
    unfold passC at h1
    split at h1
    · rename_i h2
      obtain ⟨r, hr, -⟩ := ownC_cases h2
      exact ⟨r, hr, by rw [passH, if_pos h0, hr]⟩
    · rename_i h2; exact absurd h1 h2)
  generalize passH h n b to' = PH at *
  generalize hPC : passC h n b to' = PC at *
  have e0 := hW0.symm
  clear hb hz hx x0 x1 H hok hi hz' hsz hby hW0 hPC
  go_enter Tryz.func55, Tryz.ntmps55
  go_wp2_with fail
  refine HOW.out.mono ?_
  rintro e w1 ⟨hb1, b5, b7, b8, v, rfl, ho1, hoa⟩
  obtain ⟨ac, cc, ev⟩ := row_shape ho1
  subst ev
  have HB1 := Lib.hid hb1
  have HO1 := Lib.hid ho1
  have HOA := Lib.hid hoa
  clear hb1 ho1 hoa c0 e0 HOW
  have HBC := Lib.hid (one_below w1 (.cells #[.int .i64 1, .func (.func 79) #[] #[.pointer (some ⟨w.heap.size + 1, 0, none⟩), .pointer (some ⟨w.heap.size, 0, none⟩)]] 71))
  have HOC := Lib.hid (ownsRow_below HO1.out HBC.out)
  have HSR := Lib.hid (src_block (m := 1) (c := 1) (sz := 2) (heap_alloc_new w1 (.cells #[.int .i64 1, .func (.func 79) #[] #[.pointer (some ⟨w.heap.size + 1, 0, none⟩), .pointer (some ⟨w.heap.size, 0, none⟩)]] 71)) rfl)
  have HCL : Hid (2 + 1 ≤ maxLen ∧ (2 + 1) * 16 ≤ 140737488355328 ∧ W0.heap.size ≤ (w1.alloc (.cells #[.int .i64 1, .func (.func 79) #[] #[.pointer (some ⟨w.heap.size + 1, 0, none⟩), .pointer (some ⟨w.heap.size, 0, none⟩)]] 71)).heap.size) := Lib.hid (by have := HBC.out.size; have := HB1.out.size; simp only [maxLen]; omega)
  go_wp2_with (first
    | ((with_reducible refine Any.wpl_cat ?_ ?_ ?_ Tryz.underlying73 HI.out.1 HI.out.2.1 HI.out.2.2.1 HI.out.2.2.2 ?_ (by decide) HOC.out HSR.out ?_ HCL.out.1 HCL.out.2.1 HCL.out.2.2 ?_); rfl; rfl; rfl; rfl; (simp [Value.oneCell']); intro v2 w2 hown2 hgrow2 hwho2
       have HO2 := Lib.hid hown2
       have HB2 : Hid (Below W0.heap.size W0 w2) := Lib.hid ((HB1.out.trans (HBC.out.mono HB1.out.size)).grown hgrow2 (Nat.le_trans HB1.out.size HBC.out.size) (fun k hk => (HO1.out.lt k hk).1))
       have HOA2 : Hid (OwnedAt w2 h n b b5 b7 b8) := Lib.hid (HOA.out.grown HO1.out HBC.out hgrow2)
       clear hown2 hgrow2 hwho2)
    | fail)
  obtain ⟨g, cg, rfl, hg1, hg2, hg3⟩ := ck_own (n := 3) (code := sel 4 8 1 0 0 0) (k := psFn) (cap := psCap b5 b7 b8 (w.heap.size + 1) w.heap.size) (by decide) HO2.out
  have HF : Hid (Calls Tryz.prog 27 #[.slice (some ⟨g, 0, none⟩) 3 cg] w2 fun e w' => e = .returned (.int .i64 PC) ∧ Below w2.heap.size w2 w') := Lib.hid (by
    rw [← HPC.out]
    refine first_quiet 3 cg (by decide) g (sel 4 8 1 0 0 0) psFn (psCap b5 b7 b8 (w.heap.size + 1) w.heap.size) (ps1 h n b to') w2 w2 hg2 (Below.refl _ _) ?_ hg3 ?_
    · intro i hi W
      match i, hi with
      | 0, _ => exact ow_ent1 _ W
      | 1, _ => exact ow_ent2 _ W
      | 2, _ => exact ps_ent _ W
      | m + 3, h => omega
    · intro i W hi hW
      have H2 := HOA2.out.below hW
      have hz := HZ.out
      match i, hi with
      | 0, _ => exact H2.calls.1
      | 1, _ => exact H2.calls.2
      | 2, _ => exact pass1 to' b _ _ W (blk hW (by have := HB2.out.size; omega) (blk HB2.out (by omega) HX1.out)) (blk hW (by have := HB2.out.size; omega) (blk HB2.out (by omega) HX0.out))
      | m + 3, h => omega)
  clear hg1 hg2 hg3
  refine HF.out.mono ?_
  rintro e w3 ⟨rfl, hb3⟩
  have HB3 := Lib.hid (HB2.out.trans (hb3.mono HB2.out.size))
  have HBW := Lib.hid (HB.out.trans (HB3.out.mono HB.out.size))
  have HH3 := Lib.hid (HH0.out.below HB3.out)
  clear hb3
  by_cases h0 : PC = 0
  · have t1 : (PC == 0) = true := by simp [h0]
    obtain ⟨r, hr, hPH⟩ := HPS.out h0
    have HQ0 := Lib.hid h0
    have HQ := Lib.hid hPH
    obtain ⟨es, us, H4⟩ := HH3.out
    obtain ⟨lv, hg1, hg2⟩ := H4.hit n r hr
    have HRF := Lib.hid hr
    obtain ⟨xn, xh, xo, xl, xd⟩ := r
    obtain ⟨ax, cx, elv⟩ := hg2.shape
    simp only [List.length_map] at elv
    subst elv
    have HLS : Hid (Sl w3 2 (.slice ax xl.length cx) (xl.map Lt.row)) := Lib.hid hg2
    have HGV : Hid ((Mp.mget es n).getD (.agg #[.string ⟨#[]⟩, .string ⟨#[]⟩, .string ⟨#[]⟩, .slice none 0 0, .int .i64 0]) = .agg #[.string xn, .string xh, .string xo, .slice ax xl.length cx, .int .i64 xd]) := Lib.hid (by rw [hg1]; rfl)
    have HH4 := Lib.hid H4
    have HRM := Lib.hid H4.rm
    have k1 := cell_blk H4.box 1
    have hz := HZ.out
    have HB4 := Lib.hid (one_below w3 (.cells #[.string xn, .string xh, .string xo, .slice ax xl.length cx, .int .i64 xd] 34))
    have x1 := cell_blk (blk HB4.out (by have := HB3.out.size; omega) (blk HB3.out (by omega) HX1.out)) 0
    simp only [List.getElem?_toArray, List.getElem?_cons_succ, List.getElem?_cons_zero] at k1 x1
    clear h0 hr hPH hg1 hg2 H4 hz HPH HPS
    go_wp2_with (first
      | ((with_reducible refine Mp.wpl_val (l := es) (key := n) (v := .agg #[.string xn, .string xh, .string xo, .slice ax xl.length cx, .int .i64 xd]) ?_ ?_ ?_ Tryz.underlying58 Tryz.underlying9 (zeroRc _) HRM.out HGV.out ?_); rfl; rfl; rfl)
      | fail)
    obtain ⟨w6, hw6⟩ : ∃ W, W = w3.alloc (.cells #[.string xn, .string xh, .string to', .slice ax xl.length cx, .int .i64 xd] 34) := ⟨_, rfl⟩
    obtain ⟨bq, hbq⟩ : ∃ q, q = w3.heap.size := ⟨_, rfl⟩
    have HY5 : Hid (w6.heap[bq]? = some (.cells #[.string xn, .string xh, .string to', .slice ax xl.length cx, .int .i64 xd] 34 (0, 0))) := Lib.hid (by rw [hw6, hbq]; exact heap_alloc_new _ _)
    have HBK : Hid (Below w3.heap.size w3 w6) := Lib.hid (by rw [hw6]; exact one_below _ _)
    rw [← hw6, ← hbq]
    have HX5 := Lib.hid (blk HBK.out (lt_blk HH4.out.box) HH4.out.box)
    have HRM5 := Lib.hid (HRM.out.same (HBK.out.block _ HRM.out.lt))
    obtain ⟨nm, hnm⟩ : ∃ nm, nm = h.name := ⟨_, rfl⟩
    rw [← hnm] at HX5
    clear hw6 hbq k1 x1 hnm
    obtain ⟨w5, hw5⟩ : ∃ W, W = w6 := ⟨_, rfl⟩
    rw [← hw5] at HY5 HBK HX5 HRM5 ⊢
    clear hw5
    refine Any.region_litL (fun
      | 0 => Any.val (.pointer (some ⟨bh, 0, none⟩))
      | 1 => Any.val (.pointer (some ⟨bh, 0, none⟩))
      | 2 => Any.val (.pointer (some ⟨bh, 1, none⟩))
      | 3 => Any.val (.map (some bm))
      | 4 => Any.val (.string n)
      | 5 => Any.val (.agg #[.string xn, .string xh, .string to', .slice ax xl.length cx, .int .i64 xd])
      | _ => Any.idle) 6 _ (by kernel_rfl) rfl rfl rfl (by kernel_rfl) (by kernel_rfl) (by kernel_rfl) ?_ ?_ ?_
    · intro i _
      match i with
      | 0 => exact Any.lasts_val _
      | 1 => exact Any.lasts_val _
      | 2 => exact Any.lasts_val _
      | 3 => exact Any.lasts_val _
      | 4 => exact Any.lasts_val _
      | 5 => exact Any.lasts_val _
      | n + 6 => exact Any.lasts_idle
    · simp only [List.take_succ_cons, List.take_zero]
      refine ⟨?_, ?_, ?_, ?_, ?_, ?_, trivial⟩
      · refine Any.owes_plain rfl fun ρ wo hs' hb hc' => ?_
        have h0 : ρ (.tmp 0) = .pointer (some ⟨bh, 0, none⟩) := hs'.old' 0 (by kernel_rfl)
        exact Any.ok_move (Any.post_val hb rfl h0)
      · refine Any.owes_plain rfl fun ρ wo hs' hb hc' => ?_
        have h30 : ρ (.tmp 30) = .pointer (some ⟨bh, 0, none⟩) := hs'.new' 30 0 (by kernel_rfl)
        go_simp
        exact Any.post_val hb rfl rfl
      · refine Any.owes_plain rfl fun ρ wo hs' hb hc' => ?_
        have h31 : ρ (.tmp 31) = .pointer (some ⟨bh, 0, none⟩) := hs'.new' 31 1 (by kernel_rfl)
        go_simp
        exact Any.post_val hb rfl rfl
      · refine Any.owes_plain rfl fun ρ wo hs' hb hc' => ?_
        have h32 : ρ (.tmp 32) = .pointer (some ⟨bh, 1, none⟩) := hs'.new' 32 2 (by kernel_rfl)
        obtain ⟨c0, c1, c2⟩ := cells3_blk (blk (below_undrew hb) (lt_blk HX5.out) HX5.out)
        go_simp
        exact Any.post_val hb rfl rfl
      · refine Any.owes_plain rfl fun ρ wo hs' hb hc' => ?_
        have h1 : ρ (.tmp 1) = .string n := hs'.old' 1 (by kernel_rfl)
        exact Any.ok_move (Any.post_val hb rfl h1)
      · refine Any.owes_plain rfl fun ρ wo hs' hb hc' => ?_
        have h10 : ρ (.tmp 10) = .pointer (some ⟨bq, 0, none⟩) := hs'.old' 10 (by kernel_rfl)
        obtain ⟨y0, y1, y2, y3, y4⟩ := five_blk (blk (below_undrew hb) (lt_blk HY5.out) HY5.out)
        go_simp
        exact Any.post_val hb rfl rfl
    intro vals w6 hb hk
    have h3 : vals 3 = .map (some bm) := hk 3 (by kernel_rfl)
    have h4 : vals 4 = .string n := hk 4 (by kernel_rfl)
    have h5 : vals 5 = .agg #[.string xn, .string xh, .string to', .slice ax xl.length cx, .int .i64 xd] := hk 5 (by kernel_rfl)
    have HB6 := Lib.hid hb
    have HR6 := Lib.hid (HRM5.out.same (hb.block _ HRM5.out.lt))
    clear hk hb
    simp only [List.take_succ_cons, List.take_zero, Any.putAll]
    go_frame
    simp only [Nat.zero_add, Nat.reduceAdd]
    rw [h3, h4, h5]
    clear h3 h4 h5
    refine Mp.ok_update (P := Tryz.prog) (b := bm) (l := es) (key := n) Tryz.underlying58 Tryz.underlying9 rfl rfl rfl HR6.out ?_
    intro w7 hm7 hg7 hz7
    have HM7 := Lib.hid hm7
    have HK7 : Hid (Keep (fun b => b = bm) w6 w7) := Lib.hid ((Keep.of_grown hg7).mono fun _ _ e => (Option.some.inj e).symm)
    clear hm7 hg7 hz7
    have HXN : Hid (xn = n) := Lib.hid (rfind_some HRF.out).2
    have HH7 := Lib.hid (((HH4.out.below HBK.out).below HB6.out).putR (h' := ⟨h.name, rput (rdel h.L n) ⟨xn, xh, to', xl, xd⟩, h.used⟩) (x := ⟨xn, xh, to', xl, xd⟩) (lv := .slice ax xl.length cx) (n := n) HK7.out HM7.out
      ((((HLS.out.below HBK.out (Nat.le_refl _)).below HB6.out (Nat.le_refl _))).keepM HK7.out (fun b hb j => by rw [show b = bm from hb]; exact map_no_cell ((HRM5.out.same (HB6.out.block _ HRM5.out.lt))) j)) rfl rfl
      (fun m => by rw [rfind_rput (fun r hr e => (mem_rdel.1 hr).2 (e.trans HXN.out)), rfind_rdel]; show (if xn = m then _ else _) = _; rw [HXN.out]; by_cases e : n = m <;> simp [e]))
    go_wp2_with fail
    go_ret
    exact ⟨by rw [HQ0.out]; first | rfl | skip, (((Keep.of_below HBW.out).trans (Keep.of_below (F := fun b => b = bm ∨ b = bu) HBK.out) fun _ _ e => e).trans (Keep.of_below (F := fun b => b = bm ∨ b = bu) HB6.out) fun _ _ e => e).trans HK7.out fun _ _ e => .inl e, by rw [HQ.out]; exact ⟨_, _, HH7.out⟩⟩
  · have t1 : (PC == 0) = false := by simp [h0]
    have HQ := Lib.hid (HPH.out h0)
    clear h0
    go_wp2_with fail
    go_ret
    exact ⟨rfl, Keep.of_below HBW.out, by rw [HQ.out]; exact HH3.out⟩
end Go.Proofs.YticnmmfiadpbbaaGreat.Sc
