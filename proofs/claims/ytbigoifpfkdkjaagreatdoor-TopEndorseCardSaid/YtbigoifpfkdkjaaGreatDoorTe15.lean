/- What is done to a bill: given on (the register's Endorse). -/
import Derived.Test.YtbigoifpfkdkjaaGreatDoorTe14
namespace Go.Proofs.YtbigoifpfkdkjaaGreatDoor.Sc
open Go Go.RowKit Go.ChangeShapes Go.WideShapes Go.ChangeAt
set_option maxRecDepth 100000

theorem row_not_map4 {w : World} {B sz n b : Nat} {e : TypeId} {v : Value} {xs : List Value} {l : Mp.Ents} (h : w.ownsRow B e sz v n xs) (hm : Mp.MapAt w b l) : v.ownBlock ≠ some b := by
  intro hb
  obtain ⟨es, clock, hh, _⟩ := hm
  rcases h.2 with ⟨hv, _⟩ | ⟨g, cap, cur, hv, _, hc, _⟩
  · rw [hv] at hb; cases hb
  · rw [hv] at hb
    obtain rfl : g = b := Option.some.inj hb
    rw [hh] at hc
    cases hc
theorem row_raise {w : World} {B sz n : Nat} {e : TypeId} {v : Value} {xs : List Value} (h : w.ownsRow 0 e sz v n xs) (hB : ∀ b, v.ownBlock = some b → B ≤ b) : w.ownsRow B e sz v n xs := by
  obtain ⟨h1, h2⟩ := h
  refine ⟨h1, ?_⟩
  rcases h2 with h2 | ⟨g, cap, cur, rfl, _, r⟩
  · exact .inl h2
  · exact .inr ⟨g, cap, cur, rfl, hB g rfl, r⟩
theorem one_sl {w : World} {g : Nat} {x : Ed} (h : w.heap[g]? = some (.cells #[.string x.frm, .string x.dst, .int .i64 x.kind, .int .i64 x.day] 75 (0, 0))) : Sl w 4 (.slice (some ⟨g, 0, none⟩) 1 1) ([x].map Ed.row) := by
  refine .inr ⟨g, 0, 1, rfl, lt_blk h, by simp, by decide, fun i r hr j u hu => ?_⟩
  match i, hr with
  | 0, hr =>
    obtain rfl : x.row = r := by simpa using hr
    rw [Nat.zero_mul, Nat.add_zero, Nat.zero_add]
    rw [cell_blk h j]
    simpa [Ed.row, Ed.cells] using hu
  | m + 1, hr => simp at hr
theorem Reg.grow0 {B : Nat} {w w' : World} {br bm be : Nat} {E : En} {vb vp v0 v1 v2 v' : Value} {m : ByteArray} {g : Ed} (h : Reg B w br bm be E vb vp v0 v1 v2 m) (hk : Keep (fun k => k = be ∨ v0.ownBlock = some k) w w')
    (hx : w'.heap[be]? = some (.cells (E.cells vb vp v' v1 v2) 152 (0, 0))) (hr : w'.ownsRow 0 75 4 v' (E.o0.ch.length + 1) (edCells E.o0.ch ++ g.row)) (hb : ∀ b, v'.ownBlock = some b → v0.ownBlock = some b ∨ w.heap.size ≤ b) (hbr : br ≠ be) (hbm : bm ≠ be) (hB : B ≤ w.heap.size) :
    Reg B w' br bm be { E with o0 := { E.o0 with ch := E.o0.ch ++ [g] } } vb vp v' v1 v2 m := by
  have hr1 : w'.ownsRow B 75 4 v' (E.o0.ch ++ [g]).length (edCells (E.o0.ch ++ [g])) := by
    rw [List.length_append, edCells_append]
    exact row_raise (by simpa [edCells] using hr) fun b e => (hb b e).elim (fun e2 => (h.r0.lt b e2).1) (fun e2 => Nat.le_trans hB e2)
  have old1 : w'.ownsRow B 75 4 v1 E.o1.ch.length (edCells E.o1.ch) := Any.ownsRow_same h.r1 fun b e => hk.block b (h.r1.lt b e).2 (fun hh => hh.elim (fun e2 => row_off h.r1 h.box (by decide) (e2 ▸ e)) (fun e2 => (h.a01 b e2 e)))
  have old2 : w'.ownsRow B 75 4 v2 E.o2.ch.length (edCells E.o2.ch) := Any.ownsRow_same h.r2 fun b e => hk.block b (h.r2.lt b e).2 (fun hh => hh.elim (fun e2 => row_off h.r2 h.box (by decide) (e2 ▸ e)) (fun e2 => (h.a02 b e2 e)))
  refine ⟨⟨hk.blk h.rg.rb (fun hh => hh.elim (fun e => hbr e) (fun e => row_off h.r0 h.rg.rb (by decide) e)), h.rg.mp.same (hk.block _ h.rg.mp.lt (fun hh => hh.elim (fun e => hbm e) (fun e => row_not_map4 h.r0 h.rg.mp e)))⟩, hx, hr1, old1, old2, fun b e e3 => (hb b e).elim (fun e2 => h.a01 b e2 e3) (fun e2 => by have := (h.r1.lt b e3).2; omega), fun b e e3 => (hb b e).elim (fun e2 => h.a02 b e2 e3) (fun e2 => by have := (h.r2.lt b e3).2; omega), h.a12,
    Any.ownsRow_same h.bx fun b e => hk.block b (h.bx.lt b e).2 (fun hh => hh.elim (fun e2 => row_off h.bx h.box (by decide) (e2 ▸ e)) (fun e2 => rows_off h.bx h.r0 (by decide) b e e2))⟩

theorem Reg.grow1 {B : Nat} {w w' : World} {br bm be : Nat} {E : En} {vb vp v0 v1 v2 v' : Value} {m : ByteArray} {g : Ed} (h : Reg B w br bm be E vb vp v0 v1 v2 m) (hk : Keep (fun k => k = be ∨ v1.ownBlock = some k) w w')
    (hx : w'.heap[be]? = some (.cells (E.cells vb vp v0 v' v2) 152 (0, 0))) (hr : w'.ownsRow 0 75 4 v' (E.o1.ch.length + 1) (edCells E.o1.ch ++ g.row)) (hb : ∀ b, v'.ownBlock = some b → v1.ownBlock = some b ∨ w.heap.size ≤ b) (hbr : br ≠ be) (hbm : bm ≠ be) (hB : B ≤ w.heap.size) :
    Reg B w' br bm be { E with o1 := { E.o1 with ch := E.o1.ch ++ [g] } } vb vp v0 v' v2 m := by
  have hr1 : w'.ownsRow B 75 4 v' (E.o1.ch ++ [g]).length (edCells (E.o1.ch ++ [g])) := by
    rw [List.length_append, edCells_append]
    exact row_raise (by simpa [edCells] using hr) fun b e => (hb b e).elim (fun e2 => (h.r1.lt b e2).1) (fun e2 => Nat.le_trans hB e2)
  have old0 : w'.ownsRow B 75 4 v0 E.o0.ch.length (edCells E.o0.ch) := Any.ownsRow_same h.r0 fun b e => hk.block b (h.r0.lt b e).2 (fun hh => hh.elim (fun e2 => row_off h.r0 h.box (by decide) (e2 ▸ e)) (fun e2 => (h.a01 b e e2)))
  have old2 : w'.ownsRow B 75 4 v2 E.o2.ch.length (edCells E.o2.ch) := Any.ownsRow_same h.r2 fun b e => hk.block b (h.r2.lt b e).2 (fun hh => hh.elim (fun e2 => row_off h.r2 h.box (by decide) (e2 ▸ e)) (fun e2 => (h.a12 b e2 e)))
  refine ⟨⟨hk.blk h.rg.rb (fun hh => hh.elim (fun e => hbr e) (fun e => row_off h.r1 h.rg.rb (by decide) e)), h.rg.mp.same (hk.block _ h.rg.mp.lt (fun hh => hh.elim (fun e => hbm e) (fun e => row_not_map4 h.r1 h.rg.mp e)))⟩, hx, old0, hr1, old2, fun b e e3 => (hb b e3).elim (fun e2 => h.a01 b e e2) (fun e2 => by have := (h.r0.lt b e).2; omega), h.a02, fun b e e3 => (hb b e).elim (fun e2 => h.a12 b e2 e3) (fun e2 => by have := (h.r2.lt b e3).2; omega),
    Any.ownsRow_same h.bx fun b e => hk.block b (h.bx.lt b e).2 (fun hh => hh.elim (fun e2 => row_off h.bx h.box (by decide) (e2 ▸ e)) (fun e2 => rows_off h.bx h.r1 (by decide) b e e2))⟩

theorem Reg.grow2 {B : Nat} {w w' : World} {br bm be : Nat} {E : En} {vb vp v0 v1 v2 v' : Value} {m : ByteArray} {g : Ed} (h : Reg B w br bm be E vb vp v0 v1 v2 m) (hk : Keep (fun k => k = be ∨ v2.ownBlock = some k) w w')
    (hx : w'.heap[be]? = some (.cells (E.cells vb vp v0 v1 v') 152 (0, 0))) (hr : w'.ownsRow 0 75 4 v' (E.o2.ch.length + 1) (edCells E.o2.ch ++ g.row)) (hb : ∀ b, v'.ownBlock = some b → v2.ownBlock = some b ∨ w.heap.size ≤ b) (hbr : br ≠ be) (hbm : bm ≠ be) (hB : B ≤ w.heap.size) :
    Reg B w' br bm be { E with o2 := { E.o2 with ch := E.o2.ch ++ [g] } } vb vp v0 v1 v' m := by
  have hr1 : w'.ownsRow B 75 4 v' (E.o2.ch ++ [g]).length (edCells (E.o2.ch ++ [g])) := by
    rw [List.length_append, edCells_append]
    exact row_raise (by simpa [edCells] using hr) fun b e => (hb b e).elim (fun e2 => (h.r2.lt b e2).1) (fun e2 => Nat.le_trans hB e2)
  have old0 : w'.ownsRow B 75 4 v0 E.o0.ch.length (edCells E.o0.ch) := Any.ownsRow_same h.r0 fun b e => hk.block b (h.r0.lt b e).2 (fun hh => hh.elim (fun e2 => row_off h.r0 h.box (by decide) (e2 ▸ e)) (fun e2 => (h.a02 b e e2)))
  have old1 : w'.ownsRow B 75 4 v1 E.o1.ch.length (edCells E.o1.ch) := Any.ownsRow_same h.r1 fun b e => hk.block b (h.r1.lt b e).2 (fun hh => hh.elim (fun e2 => row_off h.r1 h.box (by decide) (e2 ▸ e)) (fun e2 => (h.a12 b e e2)))
  refine ⟨⟨hk.blk h.rg.rb (fun hh => hh.elim (fun e => hbr e) (fun e => row_off h.r2 h.rg.rb (by decide) e)), h.rg.mp.same (hk.block _ h.rg.mp.lt (fun hh => hh.elim (fun e => hbm e) (fun e => row_not_map4 h.r2 h.rg.mp e)))⟩, hx, old0, old1, hr1, h.a01, fun b e e3 => (hb b e3).elim (fun e2 => h.a02 b e e2) (fun e2 => by have := (h.r0.lt b e).2; omega), fun b e e3 => (hb b e3).elim (fun e2 => h.a12 b e e2) (fun e2 => by have := (h.r1.lt b e).2; omega),
    Any.ownsRow_same h.bx fun b e => hk.block b (h.bx.lt b e).2 (fun hh => hh.elim (fun e2 => row_off h.bx h.box (by decide) (e2 ▸ e)) (fun e2 => rows_off h.bx h.r2 (by decide) b e e2))⟩
theorem endN_hit0 {E : En} {idx : Int} {g : Ed} (h : hitB idx 0 = true) : endN E idx g 1 = { endN E idx g 0 with o0 := ⟨(endN E idx g 0).o0.st, g.dst, (endN E idx g 0).o0.ch ++ [g]⟩ } ∧ (endN E idx g 0).o0 = E.og 0 := by simp [endN, h, upO, En.og]
theorem endN_miss0 {E : En} {idx : Int} {g : Ed} (h : hitB idx 0 = false) : endN E idx g 1 = endN E idx g 0 := by simp [endN, h]

theorem endN_hit1 {E : En} {idx : Int} {g : Ed} (h : hitB idx 1 = true) : endN E idx g 2 = { endN E idx g 1 with o1 := ⟨(endN E idx g 1).o1.st, g.dst, (endN E idx g 1).o1.ch ++ [g]⟩ } ∧ (endN E idx g 1).o1 = E.og 1 := by simp [endN, h, upO, En.og]
theorem endN_miss1 {E : En} {idx : Int} {g : Ed} (h : hitB idx 1 = false) : endN E idx g 2 = endN E idx g 1 := by simp [endN, h]

theorem endN_hit2 {E : En} {idx : Int} {g : Ed} (h : hitB idx 2 = true) : endN E idx g 3 = { endN E idx g 2 with o2 := ⟨(endN E idx g 2).o2.st, g.dst, (endN E idx g 2).o2.ch ++ [g]⟩ } ∧ (endN E idx g 2).o2 = E.og 2 := by simp [endN, h, upO, En.og]
theorem endN_miss2 {E : En} {idx : Int} {g : Ed} (h : hitB idx 2 = false) : endN E idx g 3 = endN E idx g 2 := by simp [endN, h]
set_option maxHeartbeats 16000000 in
theorem endorse_any (idx : Int) (by0 to0 : ByteArray) (d : Int) (E : En) (B br bm be : Nat) (vb vp v0 v1 v2 : Value) (m : ByteArray) (w : World) (h : Reg B w br bm be E vb vp v0 v1 v2 m) (hbr : br ≠ be) (hbm : bm ≠ be) (hB : B ≤ be) (hn : nameOk by0 = true) (hl : ∀ k, k < 3 → (E.og k).ch.length ≤ 1000) :
    Calls Tryz.prog 17 #[.pointer (some ⟨br, 0, none⟩), .string b1B, .int .i64 idx, .string by0, .string to0, .int .i64 d] w (fun e w' => ∃ c v0' v1' v2', e = .returned (.int .i64 c) ∧ Reg B w' br bm be (if askC (endA idx by0 to0 d) E = 0 then endN E idx ⟨by0, to0, 0, d⟩ 3 else E) vb vp v0' v1' v2' m ∧ Keep (fun x => B ≤ x) w w') := by
  have HA := Lib.hid (fun W (hW : Below w.heap.size w W) => ask_any (endA idx by0 to0 d) E br bm be vb vp v0 v1 v2 W rfl (h.below hW).rg (h.below hW).en)
  have HNM := Lib.hid (fun W => markName_any to0 W)
  have HH := Lib.hid h
  have HBR := Lib.hid (And.intro hbr hbm)
  have HBR2 := Lib.hid hB
  have HBS := Lib.hid hB
  have hse : ∀ W : World, Mp.look false (Mp.mget [(b1B, .pointer (some ⟨be, 0, none⟩))] b1B) (.pointer none) = .pointer (some ⟨be, 0, none⟩) := fun _ => rfl
  by_cases hc : askC (endA idx by0 to0 d) E = 0
  · rw [if_pos hc]
    rw [hc] at HA
    have hfd := end_found hc
    have HFD := Lib.hid hfd
    have HLN := Lib.hid hl
    have HHO : Hid (∀ W v, Sl W 4 v ([(⟨by0, to0, 0, d⟩ : Ed)].map Ed.row) → Calls Tryz.prog 72 #[.string by0, v] W (Ret W (.string to0))) := Lib.hid fun W v hs => by
      have e1 := hfd.dy
      simp only [dayOk, Bool.and_eq_true, decide_eq_true_eq] at e1
      have e3 : (to0.toList == by0.toList) = false := by rw [str_beq]; exact decide_eq_false hfd.ne
      exact holder_any by0 [⟨by0, to0, 0, d⟩] v W hs hn ((chR_nil by0).snoc (e := ⟨by0, to0, 0, d⟩) ⟨by simp only [mayE, hn, decide_eq_true e1.1, decide_eq_true e1.2, e3, hfd.nm, Bool.not_false, Bool.and_self], rfl, fun x hx => by cases hx⟩ rfl)
    have q1 := hfd.nm
    rw [q1] at HNM
    have q2 : (to0.toList == by0.toList) = false := by rw [str_beq]; exact decide_eq_false hfd.ne
    simp only [endA, wrongE, q1, q2, Bool.not_true, Bool.or_self, Ac.cells] at HA
    obtain ⟨i0, hi, hz, hsz, hby⟩ := info_parts infoEd
    have HI := Lib.hid (And.intro hi (And.intro hz (And.intro hsz hby)))
    clear hi hz hsz hby h hc hbr hbm hB hl hfd q1 hn
    go_enter Tryz.func17, Tryz.ntmps17
    go_wp2_with (first
      | ((with_reducible refine (HNM.out _).mono ?_); rintro en w1 ⟨rfl, hb1⟩; have HB1 := Lib.hid hb1; clear hb1)
      | ((with_reducible refine (HA.out _ HB1.out).mono ?_); rintro en w2 ⟨rfl, hb2⟩; have HB2 := Lib.hid (HB1.out.trans (hb2.mono HB1.out.size)); have HH2 := Lib.hid (HH.out.below HB2.out); clear hb2; have c1 : w2.cell? ⟨br, 1, none⟩ = some (.map (some bm)) := cell_blk HH2.out.rg.rb 1)
      | ((with_reducible refine Mp.wpl_lookup (b := bm) (l := [(b1B, .pointer (some ⟨be, 0, none⟩))]) (key := b1B) ?_ ?_ ?_ Tryz.underlying133 Tryz.underlying9 (zeroEn _) HH2.out.rg.mp ?_); rfl; rfl; rfl; rw [hse w2])
      | fail)
    clear c1 hse q2
    go_loopw [15, 16, 17, 42] (fun _ _ _ i wr => ∃ (k : Nat) (y0 y1 y2 : Value), k ≤ 3 ∧ i = .int .i64 k ∧ Reg B wr br bm be (endN E idx ⟨by0, to0, 0, d⟩ k) vb vp y0 y1 y2 m ∧ Keep (fun x => B ≤ x) w wr) (fun _ _ _ i _ => 3 - (intOf i).toNat)
    case atStart => exact ⟨0, v0, v1, v2, by decide, rfl, (by rw [endN_zero]; exact HH2.out), Keep.of_below HB2.out⟩
    case round =>
    obtain ⟨k, y0, y1, y2, hk, rfl, hr, hkp⟩ := hrel
    have HRG := Lib.hid hr
    have HKP := Lib.hid hkp
    clear hr hkp HH2 HB2 HB1 HH
    obtain rfl | rfl | rfl | rfl : k = 0 ∨ k = 1 ∨ k = 2 ∨ k = 3 := by omega
    · have hsplit : (idx == -1) = true ∨ ((idx == -1) = false ∧ (idx == 0) = true) ∨ ((idx == -1) = false ∧ (idx == 0) = false) := by
        cases (idx == -1) <;> cases (idx == 0) <;> simp
      rcases hsplit with hm | ⟨hm, hm2⟩ | ⟨hm, hm2⟩
      rotate_left 2
      · have HM : Hid (endN E idx ⟨by0, to0, 0, d⟩ 1 = endN E idx ⟨by0, to0, 0, d⟩ 0) := Lib.hid (endN_miss0 (by have e : hitB idx 0 = (idx == -1 || idx == 0) := rfl; rw [e, hm, hm2]; rfl))
        go_wp2_with fail
        go_roundw
        case rel => exact ⟨1, y0, y1, y2, by decide, rfl, (by rw [HM.out]; exact HRG.out), HKP.out⟩
        case measure => simp [intOf]
      all_goals
        have hh : hitB idx 0 = true := by
          have e : hitB idx 0 = (idx == -1 || idx == 0) := rfl
          rw [e]
          simp [*]
        obtain ⟨hfn, hfo⟩ := endN_hit0 (E := E) (g := ⟨by0, to0, 0, d⟩) hh
        have hhd := HFD.out.hd 0 (by decide) hh
        have hln := HLN.out 0 (by decide)
        rw [← hfo] at hhd hln
        have HFN := Lib.hid hfn
        have HRG := HRG
        clear hh hfo hfn
        generalize endN E idx ⟨by0, to0, 0, d⟩ 0 = F at *
        have HHD := Lib.hid hhd
        have HLF := Lib.hid hln
        clear hhd hln
        obtain ⟨wg, hwg⟩ : ∃ x, x = wr.alloc (.cells #[.string by0, .string to0, .int .i64 0, .int .i64 d] 75 (0, 0)) := ⟨_, rfl⟩
        have HWG := Lib.hid hwg
        have HXG : Hid (wg.heap[wr.heap.size]? = some (.cells #[.string by0, .string to0, .int .i64 0, .int .i64 d] 75 (0, 0))) := Lib.hid (hwg ▸ heap_alloc_new wr _)
        have hbw : Below wr.heap.size wr wg := hwg ▸ one_below wr _
        have HBG : Hid (Below wr.heap.size wr wg ∧ B ≤ wg.heap.size) := Lib.hid ⟨hbw, Nat.le_trans HBS.out (Nat.le_trans (Nat.le_of_lt (lt_blk HRG.out.box)) hbw.size)⟩
        have HKG : Hid (Keep (fun x => B ≤ x) wr wg) := Lib.hid (Keep.of_below hbw)
        have HBE : Hid (be < wr.heap.size ∧ ∀ b, y0.ownBlock = some b → b < wr.heap.size) := Lib.hid ⟨lt_blk HRG.out.box, fun b e => (HRG.out.r0.lt b e).2⟩
        have HRG := Lib.hid (HRG.out.below hbw)
        clear hwg hbw
        go_upto_region 11 with (first
          | (refine wpList_store_row (P := Tryz.prog) rfl 75 (.tmp 17) (.tmp 60) rfl wr.heap.size #[.string by0, .string to0, .int .i64 0, .int .i64 d] rfl rfl _ _ (heap_alloc_new wr _) (by kernel_rfl) rfl (by simp [Value.oneCell']) ?_; rw [setRow_new, ← HWG.out])
          | fail)
        have HNF : Hid (¬ (wr.heap.size = be ∨ y0.ownBlock = some wr.heap.size)) := Lib.hid (fun hh => hh.elim (fun e => by have := HBE.out.1; omega) (fun e => Nat.lt_irrefl _ (HBE.out.2 _ e)))
        have HBX : Hid (wg.heap[be]? = some (.cells (F.cells vb vp y0 y1 y2) 152 (0, 0))) := Lib.hid HRG.out.box
        have HROW : Hid (wg.ownsRow 0 75 4 y0 F.o0.ch.length (edCells F.o0.ch)) := Lib.hid (ownsRow_base HRG.out.r0 (Nat.zero_le _))
        have HNE : Hid (∀ k, y0.ownBlock = some k → ¬ k = be) := Lib.hid fun k hk e => row_off HRG.out.r0 HRG.out.box (by decide) (e ▸ hk)
        have HL : Hid (F.o0.ch.length + 1 ≤ maxLen ∧ (F.o0.ch.length + 1) * 48 ≤ 140737488355328) := Lib.hid (by have h1 := HLF.out; simp only [maxLen]; omega)
        refine Ord.region_lit (fun
          | 0 => Ord.val (.pointer (some ⟨be, 10, none⟩))
          | 1 => Ord.val (.pointer (some ⟨be, 10, none⟩))
          | 2 => Ord.val (.pointer (some ⟨be, 10, none⟩))
          | 3 => Ord.val (.pointer (some ⟨be, 12, none⟩))
          | 4 => Ord.val (y0)
          | 5 => Ord.val (.agg #[.string by0, .string to0, .int .i64 0, .int .i64 d])
          | 6 => Ord.one 75 #[.string by0, .string to0, .int .i64 0, .int .i64 d]
          | 7 => Ord.grown 75 4 (F.o0.ch.length + 1) (edCells F.o0.ch ++ [.string by0, .string to0, .int .i64 0, .int .i64 d]) 6 (y0)
          | 8 => Ord.val (.pointer (some ⟨be, 10, none⟩))
          | 9 => Ord.val (.pointer (some ⟨be, 12, none⟩))
          | 10 => Ord.kept 75 4 (F.o0.ch.length + 1) (edCells F.o0.ch ++ [.string by0, .string to0, .int .i64 0, .int .i64 d]) (be) (fun v => F.cells vb vp v y1 y2) 152 7
          | _ => Ord.idle) (fun k => k = be ∨ (y0).ownBlock = some k) (by kernel_rfl) (by kernel_rfl) (by kernel_rfl) ?_ ?_ ?_ ?_
        · intro i _
          match i with
          | 0 => exact Ord.lasts_val _
          | 1 => exact Ord.lasts_val _
          | 2 => exact Ord.lasts_val _
          | 3 => exact Ord.lasts_val _
          | 4 => exact Ord.lasts_val _
          | 5 => exact Ord.lasts_val _
          | 6 => exact Ord.lasts_one _ _
          | 7 => exact Ord.lasts_grown _ _ _ _ _ _
          | 8 => exact Ord.lasts_val _
          | 9 => exact Ord.lasts_val _
          | 10 => exact Ord.lasts_kept _ _ _ _ _ _ _ _
          | n + 11 => exact Ord.lasts_idle
        · refine ⟨fun k b _ hh => ?_, fun k b _ hh => ?_, fun k k' b _ _ hne h1 h2 => ?_⟩
          · match k, hh with
            | 0, hh => exact hh.elim
            | 1, hh => exact hh.elim
            | 2, hh => exact hh.elim
            | 3, hh => exact hh.elim
            | 4, hh => exact hh.elim
            | 5, hh => exact hh.elim
            | 6, hh => exact hh.elim
            | 7, hh => exact .inr hh
            | 8, hh => exact hh.elim
            | 9, hh => exact hh.elim
            | 10, hh => exact .inl hh
            | m + 11, hh => exact hh.elim
          · match k, hh with
            | 0, hh => exact hh.elim
            | 1, hh => exact hh.elim
            | 2, hh => exact hh.elim
            | 3, hh => exact hh.elim
            | 4, hh => exact hh.elim
            | 5, hh => exact hh.elim
            | 6, hh => exact hh.elim
            | 7, hh => exact (HROW.out.lt b hh).2
            | 8, hh => exact hh.elim
            | 9, hh => exact hh.elim
            | 10, hh => exact hh ▸ lt_blk HBX.out
            | m + 11, hh => exact hh.elim
          · have a : (k = 7 ∧ (fun k => (y0).ownBlock = some k) b) ∨ (k = 10 ∧ (fun k => k = be) b) := by
              match k, h1 with
              | 0, hh => exact hh.elim
              | 1, hh => exact hh.elim
              | 2, hh => exact hh.elim
              | 3, hh => exact hh.elim
              | 4, hh => exact hh.elim
              | 5, hh => exact hh.elim
              | 6, hh => exact hh.elim
              | 7, hh => exact .inl ⟨rfl, hh⟩
              | 8, hh => exact hh.elim
              | 9, hh => exact hh.elim
              | 10, hh => exact Or.inr (⟨rfl, hh⟩)
              | m + 11, hh => exact hh.elim
            have a' : (k' = 7 ∧ (fun k => (y0).ownBlock = some k) b) ∨ (k' = 10 ∧ (fun k => k = be) b) := by
              match k', h2 with
              | 0, hh => exact hh.elim
              | 1, hh => exact hh.elim
              | 2, hh => exact hh.elim
              | 3, hh => exact hh.elim
              | 4, hh => exact hh.elim
              | 5, hh => exact hh.elim
              | 6, hh => exact hh.elim
              | 7, hh => exact .inl ⟨rfl, hh⟩
              | 8, hh => exact hh.elim
              | 9, hh => exact hh.elim
              | 10, hh => exact Or.inr (⟨rfl, hh⟩)
              | m + 11, hh => exact hh.elim
            rcases a with ⟨rfl, a⟩ | ⟨rfl, a⟩ <;> rcases a' with ⟨rfl, a'⟩ | ⟨rfl, a'⟩
            all_goals first | exact absurd rfl hne | (first | exact HNE.out _ a a' | exact HNE.out _ a' a)
        · refine ⟨?_, ?_, ?_, ?_, ?_, ?_, ?_, ?_, ?_, ?_, ?_, trivial⟩
          · refine Ord.owes_plain rfl fun ρ Os wo hs' hb hc' => ?_
            have h16 : ρ (.tmp 16) = .pointer (some ⟨be, 10, none⟩) := hs'.old' 16 (by kernel_rfl)
            exact Any.ok_move (Ord.post_val rfl h16)
          · refine Ord.owes_plain rfl fun ρ Os wo hs' hb hc' => ?_
            have h16 : ρ (.tmp 16) = .pointer (some ⟨be, 10, none⟩) := hs'.old' 16 (by kernel_rfl)
            exact Any.ok_move (Ord.post_val rfl h16)
          · refine Ord.owes_plain rfl fun ρ Os wo hs' hb hc' => ?_
            have h62 : ρ (.tmp 62) = .pointer (some ⟨be, 10, none⟩) := hs'.val' 62 1 (by kernel_rfl) rfl
            go_simp
            exact Ord.post_val rfl rfl
          · refine Ord.owes_plain rfl fun ρ Os wo hs' hb hc' => ?_
            have h63 : ρ (.tmp 63) = .pointer (some ⟨be, 10, none⟩) := hs'.val' 63 2 (by kernel_rfl) rfl
            go_simp
            exact Ord.post_val rfl rfl
          · refine Ord.owes_plain rfl fun ρ Os wo hs' hb hc' => ?_
            have h64 : ρ (.tmp 64) = .pointer (some ⟨be, 12, none⟩) := hs'.val' 64 3 (by kernel_rfl) rfl
            have c0 : wo.cell? ⟨be, 12, none⟩ = some (y0) := cell_blk ((hs'.early' 10 (by kernel_rfl) _ rfl).trans HBX.out) 12
            go_simp
            exact Ord.post_val rfl rfl
          · refine Ord.owes_plain rfl fun ρ Os wo hs' hb hc' => ?_
            have h17 : ρ (.tmp 17) = .pointer (some ⟨wr.heap.size, 0, none⟩) := hs'.old' 17 (by kernel_rfl)
            have c0 : wo.cell? ⟨wr.heap.size, 0, none⟩ = some (.string by0) := cell_blk ((hb.block _ (lt_blk HXG.out) HNF.out).trans HXG.out) 0
            have c1 : wo.cell? ⟨wr.heap.size, 1, none⟩ = some (.string to0) := cell_blk ((hb.block _ (lt_blk HXG.out) HNF.out).trans HXG.out) 1
            have c2 : wo.cell? ⟨wr.heap.size, 2, none⟩ = some (.int .i64 0) := cell_blk ((hb.block _ (lt_blk HXG.out) HNF.out).trans HXG.out) 2
            have c3 : wo.cell? ⟨wr.heap.size, 3, none⟩ = some (.int .i64 d) := cell_blk ((hb.block _ (lt_blk HXG.out) HNF.out).trans HXG.out) 3
            go_simp
            exact Ord.post_val rfl rfl
          · refine Ord.owes_plain rfl fun ρ Os wo hs' hb hc' => ?_
            have h66 : ρ (.tmp 66) = .agg #[.string by0, .string to0, .int .i64 0, .int .i64 d] := hs'.val' 66 5 (by kernel_rfl) rfl
            go_simp
            exact Ord.post_one rfl
          · refine Ord.owes_plain rfl fun ρ Os wo hs' hb hc' => ?_
            have h65 : ρ (.tmp 65) = y0 := hs'.val' 65 4 (by kernel_rfl) rfl
            exact Ord.ok_grown Tryz.underlying70 HI.out.1 HI.out.2.1 HI.out.2.2.1 HI.out.2.2.2 rfl (by decide) h65 (hs'.new' 67 6 (by kernel_rfl)) HROW.out hs'.here rfl (by simp [Value.oneCell']) HL.out.1 HL.out.2 rfl
          · refine Ord.owes_plain rfl fun ρ Os wo hs' hb hc' => ?_
            have h61 : ρ (.tmp 61) = .pointer (some ⟨be, 10, none⟩) := hs'.val' 61 0 (by kernel_rfl) rfl
            go_simp
            exact Ord.post_val rfl rfl
          · refine Ord.owes_plain rfl fun ρ Os wo hs' hb hc' => ?_
            have h69 : ρ (.tmp 69) = .pointer (some ⟨be, 10, none⟩) := hs'.val' 69 8 (by kernel_rfl) rfl
            go_simp
            exact Ord.post_val rfl rfl
          · refine Ord.owes_plain rfl fun ρ Os wo hs' hb hc' => ?_
            have h70 : ρ (.tmp 70) = .pointer (some ⟨be, 12, none⟩) := hs'.val' 70 9 (by kernel_rfl) rfl
            exact Ord.ok_kept h70 (hs'.new' 68 7 (by kernel_rfl)) HBX.out (hs'.here _ rfl) (show 12 < 19 from (by decide)) (by decide) (fun _ => rfl) (fun _ => by kernel_rfl) rfl
        · intro vals Os ρs w7 hk hkn hln hap hbd
          obtain ⟨v', r1, r2, r3⟩ := hkn 10 (by kernel_rfl)
          have hbd := hbd 10 (by kernel_rfl)
          have HR7 := Lib.hid (HRG.out.grow0 (g := ⟨by0, to0, 0, d⟩) hk r2 (by simpa [Ed.row, Ed.cells] using r1) (fun b e => (hbd b ((r3 b).2 (.inr e))).elim .inr (fun hh => hh.elim (fun e2 => absurd e (e2 ▸ row_off r1 r2 (by decide))) .inl)) HBR.out.1 HBR.out.2 HBG.out.2)
          have HK7 := Lib.hid (hk.mono (G := fun x => B ≤ x) (fun i _ hh => hh.elim (fun e => e ▸ HBR2.out) (fun e => (HRG.out.r0.lt i e).1)))
          have HX7 : Hid (w7.heap[wr.heap.size]? = some (.cells #[.string by0, .string to0, .int .i64 0, .int .i64 d] 75 (0, 0))) := Lib.hid (hk.blk HXG.out HNF.out)
          clear hkn hln hap hbd r1 r2 r3 hk HBX HROW HNE HRG
          simp only [Any.putAll]
          go_frame
          simp only [Nat.zero_add, Nat.reduceAdd]
          go_wp2_with fail
          have HC7 : Hid (∀ W, Below w7.heap.size w7 W → W.cell? ⟨be, 11, none⟩ = some (.string by0)) := Lib.hid fun W hW => by
            have hc : w7.cell? ⟨be, 11, none⟩ = some (.string F.o0.hd) := cell_blk HR7.out.box 11
            rw [HHD.out] at hc
            exact (hW.cell (p := ⟨be, 11, none⟩) (lt_blk HR7.out.box)).trans hc
          refine Any.region_litL (fun
            | 0 => Any.val (.pointer (some ⟨be, 10, none⟩))
            | 1 => Any.val (.pointer (some ⟨be, 10, none⟩))
            | 2 => Any.val (.pointer (some ⟨be, 10, none⟩))
            | 3 => Any.val (.pointer (some ⟨be, 11, none⟩))
            | 4 => Any.val (.string by0)
            | 5 => Any.val (.agg #[.string by0, .string to0, .int .i64 0, .int .i64 d])
            | 6 => Any.made 75 1 #[.string by0, .string to0, .int .i64 0, .int .i64 d]
            | 7 => Any.val (.string to0)
            | 8 => Any.val (.pointer (some ⟨be, 10, none⟩))
            | 9 => Any.val (.pointer (some ⟨be, 11, none⟩))
            | _ => Any.idle) 10 _ (by kernel_rfl) rfl rfl rfl (by kernel_rfl) (by kernel_rfl) (by kernel_rfl) ?_ ?_ ?_
          · intro i _
            match i with
            | 0 => exact Any.lasts_val _
            | 1 => exact Any.lasts_val _
            | 2 => exact Any.lasts_val _
            | 3 => exact Any.lasts_val _
            | 4 => exact Any.lasts_val _
            | 5 => exact Any.lasts_val _
            | 6 => exact Any.lasts_made _ _ _
            | 7 => exact Any.lasts_val _
            | 8 => exact Any.lasts_val _
            | 9 => exact Any.lasts_val _
            | n + 10 => exact Any.lasts_idle
          · simp only [List.take_succ_cons, List.take_zero]
            refine ⟨?_, ?_, ?_, ?_, ?_, ?_, ?_, ?_, ?_, ?_, trivial⟩
            · refine Any.owes_plain rfl fun ρ wo hs' hb hc' => ?_
              have h16 : ρ (.tmp 16) = .pointer (some ⟨be, 10, none⟩) := hs'.old' 16 (by kernel_rfl)
              exact Any.ok_move (Any.post_val hb rfl h16)
            · refine Any.owes_plain rfl fun ρ wo hs' hb hc' => ?_
              have h16 : ρ (.tmp 16) = .pointer (some ⟨be, 10, none⟩) := hs'.old' 16 (by kernel_rfl)
              exact Any.ok_move (Any.post_val hb rfl h16)
            · refine Any.owes_plain rfl fun ρ wo hs' hb hc' => ?_
              have h72 : ρ (.tmp 72) = .pointer (some ⟨be, 10, none⟩) := hs'.new' 72 1 (by kernel_rfl)
              go_simp
              exact Any.post_val hb rfl rfl
            · refine Any.owes_plain rfl fun ρ wo hs' hb hc' => ?_
              have h73 : ρ (.tmp 73) = .pointer (some ⟨be, 10, none⟩) := hs'.new' 73 2 (by kernel_rfl)
              go_simp
              exact Any.post_val hb rfl rfl
            · refine Any.owes_plain rfl fun ρ wo hs' hb hc' => ?_
              have h74 : ρ (.tmp 74) = .pointer (some ⟨be, 11, none⟩) := hs'.new' 74 3 (by kernel_rfl)
              have c0 : wo.cell? ⟨be, 11, none⟩ = some (.string by0) := (HC7.out wo (below_undrew hb))
              go_simp
              exact Any.post_val hb rfl rfl
            · refine Any.owes_plain rfl fun ρ wo hs' hb hc' => ?_
              have h17 : ρ (.tmp 17) = .pointer (some ⟨wr.heap.size, 0, none⟩) := hs'.old' 17 (by kernel_rfl)
              have c0 : wo.cell? ⟨wr.heap.size, 0, none⟩ = some (.string by0) := cell_blk (blk (below_undrew hb) (lt_blk HX7.out) HX7.out) 0
              have c1 : wo.cell? ⟨wr.heap.size, 1, none⟩ = some (.string to0) := cell_blk (blk (below_undrew hb) (lt_blk HX7.out) HX7.out) 1
              have c2 : wo.cell? ⟨wr.heap.size, 2, none⟩ = some (.int .i64 0) := cell_blk (blk (below_undrew hb) (lt_blk HX7.out) HX7.out) 2
              have c3 : wo.cell? ⟨wr.heap.size, 3, none⟩ = some (.int .i64 d) := cell_blk (blk (below_undrew hb) (lt_blk HX7.out) HX7.out) 3
              go_simp
              exact Any.post_val hb rfl rfl
            · refine Any.owes_plain rfl fun ρ wo hs' hb hc' => ?_
              have h76 : ρ (.tmp 76) = .agg #[.string by0, .string to0, .int .i64 0, .int .i64 d] := hs'.new' 76 5 (by kernel_rfl)
              go_simp
              exact Any.post_new hb ⟨_, rfl, heap_alloc_new _ _⟩ (one_below _ _) (by intro b hb'; obtain rfl : wo.heap.size = b := Option.some.inj hb'; exact Nat.le_refl _)
            · refine Any.owes_plain rfl fun ρ wo hs' hb hc' => ?_
              have h75 : ρ (.tmp 75) = .string by0 := hs'.new' 75 4 (by kernel_rfl)
              have hf := hs'.func 72
              obtain ⟨g, hg, hgb⟩ := hs'.new' 77 6 (by kernel_rfl)
              have hsl : Sl wo 4 (.slice (some ⟨g, 0, none⟩) 1 1) ([(⟨by0, to0, 0, d⟩ : Ed)].map Ed.row) := one_sl hgb
              go_simp
              exact (HHO.out wo _ hsl).mono fun e w' ⟨he, hb'⟩ => ⟨_, he, Any.post_vals hb rfl rfl hb'⟩
            · refine Any.owes_plain rfl fun ρ wo hs' hb hc' => ?_
              have h71 : ρ (.tmp 71) = .pointer (some ⟨be, 10, none⟩) := hs'.new' 71 0 (by kernel_rfl)
              go_simp
              exact Any.post_val hb rfl rfl
            · refine Any.owes_plain rfl fun ρ wo hs' hb hc' => ?_
              have h79 : ρ (.tmp 79) = .pointer (some ⟨be, 10, none⟩) := hs'.new' 79 8 (by kernel_rfl)
              go_simp
              exact Any.post_val hb rfl rfl
          intro vals w8 hb hk
          have h7 : vals 7 = .string to0 := hk 7 (by kernel_rfl)
          have h9 : vals 9 = .pointer (some ⟨be, 11, none⟩) := hk 9 (by kernel_rfl)
          have HR8 := Lib.hid (HR7.out.below hb)
          have HK8 := Lib.hid (Keep.of_below (F := fun x => B ≤ x) hb)
          clear hk hb HC7
          simp only [List.take_succ_cons, List.take_zero, Any.putAll]
          go_frame
          simp only [Nat.zero_add, Nat.reduceAdd]
          rw [h7, h9]
          clear h7 h9
          have c8 : w8.cell? ⟨be, 11, none⟩ = some (.string F.o0.hd) := cell_blk HR8.out.box 11
          have f8 := free_blk HR8.out.box 11
          have HR9 : Hid (Reg B (w8.setCell ⟨be, 11, none⟩ (.string to0)) br bm be { F with o0 := ⟨F.o0.st, to0, F.o0.ch ++ [⟨by0, to0, 0, d⟩]⟩ } vb vp v' y1 y2 m) := Lib.hid (HR8.out.setCell rfl rfl rfl rfl HBR.out.1 HBR.out.2)
          go_simp
          go_wp2_with fail
          go_roundw
          case rel => exact ⟨1, v', y1, y2, by decide, rfl, (by rw [HFN.out]; exact HR9.out), HKP.out.trans (HKG.out.trans (HK7.out.trans (HK8.out.trans ((Keep.of_grown (grown_setC w8 be 11 _)).mono (fun i _ h => Option.some.inj h ▸ HBR2.out)) (fun _ _ h => h)) (fun _ _ h => h)) (fun _ _ h => h)) (fun _ _ h => h)⟩
          case measure => simp [intOf]
    · have hsplit : (idx == -1) = true ∨ ((idx == -1) = false ∧ (idx == 1) = true) ∨ ((idx == -1) = false ∧ (idx == 1) = false) := by
        cases (idx == -1) <;> cases (idx == 1) <;> simp
      rcases hsplit with hm | ⟨hm, hm2⟩ | ⟨hm, hm2⟩
      rotate_left 2
      · have HM : Hid (endN E idx ⟨by0, to0, 0, d⟩ 2 = endN E idx ⟨by0, to0, 0, d⟩ 1) := Lib.hid (endN_miss1 (by have e : hitB idx 1 = (idx == -1 || idx == 1) := rfl; rw [e, hm, hm2]; rfl))
        go_wp2_with fail
        go_roundw
        case rel => exact ⟨2, y0, y1, y2, by decide, rfl, (by rw [HM.out]; exact HRG.out), HKP.out⟩
        case measure => simp [intOf]
      all_goals
        have hh : hitB idx 1 = true := by
          have e : hitB idx 1 = (idx == -1 || idx == 1) := rfl
          rw [e]
          simp [*]
        obtain ⟨hfn, hfo⟩ := endN_hit1 (E := E) (g := ⟨by0, to0, 0, d⟩) hh
        have hhd := HFD.out.hd 1 (by decide) hh
        have hln := HLN.out 1 (by decide)
        rw [← hfo] at hhd hln
        have HFN := Lib.hid hfn
        have HRG := HRG
        clear hh hfo hfn
        generalize endN E idx ⟨by0, to0, 0, d⟩ 1 = F at *
        have HHD := Lib.hid hhd
        have HLF := Lib.hid hln
        clear hhd hln
        obtain ⟨wg, hwg⟩ : ∃ x, x = wr.alloc (.cells #[.string by0, .string to0, .int .i64 0, .int .i64 d] 75 (0, 0)) := ⟨_, rfl⟩
        have HWG := Lib.hid hwg
        have HXG : Hid (wg.heap[wr.heap.size]? = some (.cells #[.string by0, .string to0, .int .i64 0, .int .i64 d] 75 (0, 0))) := Lib.hid (hwg ▸ heap_alloc_new wr _)
        have hbw : Below wr.heap.size wr wg := hwg ▸ one_below wr _
        have HBG : Hid (Below wr.heap.size wr wg ∧ B ≤ wg.heap.size) := Lib.hid ⟨hbw, Nat.le_trans HBS.out (Nat.le_trans (Nat.le_of_lt (lt_blk HRG.out.box)) hbw.size)⟩
        have HKG : Hid (Keep (fun x => B ≤ x) wr wg) := Lib.hid (Keep.of_below hbw)
        have HBE : Hid (be < wr.heap.size ∧ ∀ b, y1.ownBlock = some b → b < wr.heap.size) := Lib.hid ⟨lt_blk HRG.out.box, fun b e => (HRG.out.r1.lt b e).2⟩
        have HRG := Lib.hid (HRG.out.below hbw)
        clear hwg hbw
        go_upto_region 11 with (first
          | (refine wpList_store_row (P := Tryz.prog) rfl 75 (.tmp 17) (.tmp 60) rfl wr.heap.size #[.string by0, .string to0, .int .i64 0, .int .i64 d] rfl rfl _ _ (heap_alloc_new wr _) (by kernel_rfl) rfl (by simp [Value.oneCell']) ?_; rw [setRow_new, ← HWG.out])
          | fail)
        have HNF : Hid (¬ (wr.heap.size = be ∨ y1.ownBlock = some wr.heap.size)) := Lib.hid (fun hh => hh.elim (fun e => by have := HBE.out.1; omega) (fun e => Nat.lt_irrefl _ (HBE.out.2 _ e)))
        have HBX : Hid (wg.heap[be]? = some (.cells (F.cells vb vp y0 y1 y2) 152 (0, 0))) := Lib.hid HRG.out.box
        have HROW : Hid (wg.ownsRow 0 75 4 y1 F.o1.ch.length (edCells F.o1.ch)) := Lib.hid (ownsRow_base HRG.out.r1 (Nat.zero_le _))
        have HNE : Hid (∀ k, y1.ownBlock = some k → ¬ k = be) := Lib.hid fun k hk e => row_off HRG.out.r1 HRG.out.box (by decide) (e ▸ hk)
        have HL : Hid (F.o1.ch.length + 1 ≤ maxLen ∧ (F.o1.ch.length + 1) * 48 ≤ 140737488355328) := Lib.hid (by have h1 := HLF.out; simp only [maxLen]; omega)
        refine Ord.region_lit (fun
          | 0 => Ord.val (.pointer (some ⟨be, 13, none⟩))
          | 1 => Ord.val (.pointer (some ⟨be, 13, none⟩))
          | 2 => Ord.val (.pointer (some ⟨be, 13, none⟩))
          | 3 => Ord.val (.pointer (some ⟨be, 15, none⟩))
          | 4 => Ord.val (y1)
          | 5 => Ord.val (.agg #[.string by0, .string to0, .int .i64 0, .int .i64 d])
          | 6 => Ord.one 75 #[.string by0, .string to0, .int .i64 0, .int .i64 d]
          | 7 => Ord.grown 75 4 (F.o1.ch.length + 1) (edCells F.o1.ch ++ [.string by0, .string to0, .int .i64 0, .int .i64 d]) 6 (y1)
          | 8 => Ord.val (.pointer (some ⟨be, 13, none⟩))
          | 9 => Ord.val (.pointer (some ⟨be, 15, none⟩))
          | 10 => Ord.kept 75 4 (F.o1.ch.length + 1) (edCells F.o1.ch ++ [.string by0, .string to0, .int .i64 0, .int .i64 d]) (be) (fun v => F.cells vb vp y0 v y2) 152 7
          | _ => Ord.idle) (fun k => k = be ∨ (y1).ownBlock = some k) (by kernel_rfl) (by kernel_rfl) (by kernel_rfl) ?_ ?_ ?_ ?_
        · intro i _
          match i with
          | 0 => exact Ord.lasts_val _
          | 1 => exact Ord.lasts_val _
          | 2 => exact Ord.lasts_val _
          | 3 => exact Ord.lasts_val _
          | 4 => exact Ord.lasts_val _
          | 5 => exact Ord.lasts_val _
          | 6 => exact Ord.lasts_one _ _
          | 7 => exact Ord.lasts_grown _ _ _ _ _ _
          | 8 => exact Ord.lasts_val _
          | 9 => exact Ord.lasts_val _
          | 10 => exact Ord.lasts_kept _ _ _ _ _ _ _ _
          | n + 11 => exact Ord.lasts_idle
        · refine ⟨fun k b _ hh => ?_, fun k b _ hh => ?_, fun k k' b _ _ hne h1 h2 => ?_⟩
          · match k, hh with
            | 0, hh => exact hh.elim
            | 1, hh => exact hh.elim
            | 2, hh => exact hh.elim
            | 3, hh => exact hh.elim
            | 4, hh => exact hh.elim
            | 5, hh => exact hh.elim
            | 6, hh => exact hh.elim
            | 7, hh => exact .inr hh
            | 8, hh => exact hh.elim
            | 9, hh => exact hh.elim
            | 10, hh => exact .inl hh
            | m + 11, hh => exact hh.elim
          · match k, hh with
            | 0, hh => exact hh.elim
            | 1, hh => exact hh.elim
            | 2, hh => exact hh.elim
            | 3, hh => exact hh.elim
            | 4, hh => exact hh.elim
            | 5, hh => exact hh.elim
            | 6, hh => exact hh.elim
            | 7, hh => exact (HROW.out.lt b hh).2
            | 8, hh => exact hh.elim
            | 9, hh => exact hh.elim
            | 10, hh => exact hh ▸ lt_blk HBX.out
            | m + 11, hh => exact hh.elim
          · have a : (k = 7 ∧ (fun k => (y1).ownBlock = some k) b) ∨ (k = 10 ∧ (fun k => k = be) b) := by
              match k, h1 with
              | 0, hh => exact hh.elim
              | 1, hh => exact hh.elim
              | 2, hh => exact hh.elim
              | 3, hh => exact hh.elim
              | 4, hh => exact hh.elim
              | 5, hh => exact hh.elim
              | 6, hh => exact hh.elim
              | 7, hh => exact .inl ⟨rfl, hh⟩
              | 8, hh => exact hh.elim
              | 9, hh => exact hh.elim
              | 10, hh => exact Or.inr (⟨rfl, hh⟩)
              | m + 11, hh => exact hh.elim
            have a' : (k' = 7 ∧ (fun k => (y1).ownBlock = some k) b) ∨ (k' = 10 ∧ (fun k => k = be) b) := by
              match k', h2 with
              | 0, hh => exact hh.elim
              | 1, hh => exact hh.elim
              | 2, hh => exact hh.elim
              | 3, hh => exact hh.elim
              | 4, hh => exact hh.elim
              | 5, hh => exact hh.elim
              | 6, hh => exact hh.elim
              | 7, hh => exact .inl ⟨rfl, hh⟩
              | 8, hh => exact hh.elim
              | 9, hh => exact hh.elim
              | 10, hh => exact Or.inr (⟨rfl, hh⟩)
              | m + 11, hh => exact hh.elim
            rcases a with ⟨rfl, a⟩ | ⟨rfl, a⟩ <;> rcases a' with ⟨rfl, a'⟩ | ⟨rfl, a'⟩
            all_goals first | exact absurd rfl hne | (first | exact HNE.out _ a a' | exact HNE.out _ a' a)
        · refine ⟨?_, ?_, ?_, ?_, ?_, ?_, ?_, ?_, ?_, ?_, ?_, trivial⟩
          · refine Ord.owes_plain rfl fun ρ Os wo hs' hb hc' => ?_
            have h16 : ρ (.tmp 16) = .pointer (some ⟨be, 13, none⟩) := hs'.old' 16 (by kernel_rfl)
            exact Any.ok_move (Ord.post_val rfl h16)
          · refine Ord.owes_plain rfl fun ρ Os wo hs' hb hc' => ?_
            have h16 : ρ (.tmp 16) = .pointer (some ⟨be, 13, none⟩) := hs'.old' 16 (by kernel_rfl)
            exact Any.ok_move (Ord.post_val rfl h16)
          · refine Ord.owes_plain rfl fun ρ Os wo hs' hb hc' => ?_
            have h62 : ρ (.tmp 62) = .pointer (some ⟨be, 13, none⟩) := hs'.val' 62 1 (by kernel_rfl) rfl
            go_simp
            exact Ord.post_val rfl rfl
          · refine Ord.owes_plain rfl fun ρ Os wo hs' hb hc' => ?_
            have h63 : ρ (.tmp 63) = .pointer (some ⟨be, 13, none⟩) := hs'.val' 63 2 (by kernel_rfl) rfl
            go_simp
            exact Ord.post_val rfl rfl
          · refine Ord.owes_plain rfl fun ρ Os wo hs' hb hc' => ?_
            have h64 : ρ (.tmp 64) = .pointer (some ⟨be, 15, none⟩) := hs'.val' 64 3 (by kernel_rfl) rfl
            have c0 : wo.cell? ⟨be, 15, none⟩ = some (y1) := cell_blk ((hs'.early' 10 (by kernel_rfl) _ rfl).trans HBX.out) 15
            go_simp
            exact Ord.post_val rfl rfl
          · refine Ord.owes_plain rfl fun ρ Os wo hs' hb hc' => ?_
            have h17 : ρ (.tmp 17) = .pointer (some ⟨wr.heap.size, 0, none⟩) := hs'.old' 17 (by kernel_rfl)
            have c0 : wo.cell? ⟨wr.heap.size, 0, none⟩ = some (.string by0) := cell_blk ((hb.block _ (lt_blk HXG.out) HNF.out).trans HXG.out) 0
            have c1 : wo.cell? ⟨wr.heap.size, 1, none⟩ = some (.string to0) := cell_blk ((hb.block _ (lt_blk HXG.out) HNF.out).trans HXG.out) 1
            have c2 : wo.cell? ⟨wr.heap.size, 2, none⟩ = some (.int .i64 0) := cell_blk ((hb.block _ (lt_blk HXG.out) HNF.out).trans HXG.out) 2
            have c3 : wo.cell? ⟨wr.heap.size, 3, none⟩ = some (.int .i64 d) := cell_blk ((hb.block _ (lt_blk HXG.out) HNF.out).trans HXG.out) 3
            go_simp
            exact Ord.post_val rfl rfl
          · refine Ord.owes_plain rfl fun ρ Os wo hs' hb hc' => ?_
            have h66 : ρ (.tmp 66) = .agg #[.string by0, .string to0, .int .i64 0, .int .i64 d] := hs'.val' 66 5 (by kernel_rfl) rfl
            go_simp
            exact Ord.post_one rfl
          · refine Ord.owes_plain rfl fun ρ Os wo hs' hb hc' => ?_
            have h65 : ρ (.tmp 65) = y1 := hs'.val' 65 4 (by kernel_rfl) rfl
            exact Ord.ok_grown Tryz.underlying70 HI.out.1 HI.out.2.1 HI.out.2.2.1 HI.out.2.2.2 rfl (by decide) h65 (hs'.new' 67 6 (by kernel_rfl)) HROW.out hs'.here rfl (by simp [Value.oneCell']) HL.out.1 HL.out.2 rfl
          · refine Ord.owes_plain rfl fun ρ Os wo hs' hb hc' => ?_
            have h61 : ρ (.tmp 61) = .pointer (some ⟨be, 13, none⟩) := hs'.val' 61 0 (by kernel_rfl) rfl
            go_simp
            exact Ord.post_val rfl rfl
          · refine Ord.owes_plain rfl fun ρ Os wo hs' hb hc' => ?_
            have h69 : ρ (.tmp 69) = .pointer (some ⟨be, 13, none⟩) := hs'.val' 69 8 (by kernel_rfl) rfl
            go_simp
            exact Ord.post_val rfl rfl
          · refine Ord.owes_plain rfl fun ρ Os wo hs' hb hc' => ?_
            have h70 : ρ (.tmp 70) = .pointer (some ⟨be, 15, none⟩) := hs'.val' 70 9 (by kernel_rfl) rfl
            exact Ord.ok_kept h70 (hs'.new' 68 7 (by kernel_rfl)) HBX.out (hs'.here _ rfl) (show 15 < 19 from (by decide)) (by decide) (fun _ => rfl) (fun _ => by kernel_rfl) rfl
        · intro vals Os ρs w7 hk hkn hln hap hbd
          obtain ⟨v', r1, r2, r3⟩ := hkn 10 (by kernel_rfl)
          have hbd := hbd 10 (by kernel_rfl)
          have HR7 := Lib.hid (HRG.out.grow1 (g := ⟨by0, to0, 0, d⟩) hk r2 (by simpa [Ed.row, Ed.cells] using r1) (fun b e => (hbd b ((r3 b).2 (.inr e))).elim .inr (fun hh => hh.elim (fun e2 => absurd e (e2 ▸ row_off r1 r2 (by decide))) .inl)) HBR.out.1 HBR.out.2 HBG.out.2)
          have HK7 := Lib.hid (hk.mono (G := fun x => B ≤ x) (fun i _ hh => hh.elim (fun e => e ▸ HBR2.out) (fun e => (HRG.out.r1.lt i e).1)))
          have HX7 : Hid (w7.heap[wr.heap.size]? = some (.cells #[.string by0, .string to0, .int .i64 0, .int .i64 d] 75 (0, 0))) := Lib.hid (hk.blk HXG.out HNF.out)
          clear hkn hln hap hbd r1 r2 r3 hk HBX HROW HNE HRG
          simp only [Any.putAll]
          go_frame
          simp only [Nat.zero_add, Nat.reduceAdd]
          go_wp2_with fail
          have HC7 : Hid (∀ W, Below w7.heap.size w7 W → W.cell? ⟨be, 14, none⟩ = some (.string by0)) := Lib.hid fun W hW => by
            have hc : w7.cell? ⟨be, 14, none⟩ = some (.string F.o1.hd) := cell_blk HR7.out.box 14
            rw [HHD.out] at hc
            exact (hW.cell (p := ⟨be, 14, none⟩) (lt_blk HR7.out.box)).trans hc
          refine Any.region_litL (fun
            | 0 => Any.val (.pointer (some ⟨be, 13, none⟩))
            | 1 => Any.val (.pointer (some ⟨be, 13, none⟩))
            | 2 => Any.val (.pointer (some ⟨be, 13, none⟩))
            | 3 => Any.val (.pointer (some ⟨be, 14, none⟩))
            | 4 => Any.val (.string by0)
            | 5 => Any.val (.agg #[.string by0, .string to0, .int .i64 0, .int .i64 d])
            | 6 => Any.made 75 1 #[.string by0, .string to0, .int .i64 0, .int .i64 d]
            | 7 => Any.val (.string to0)
            | 8 => Any.val (.pointer (some ⟨be, 13, none⟩))
            | 9 => Any.val (.pointer (some ⟨be, 14, none⟩))
            | _ => Any.idle) 10 _ (by kernel_rfl) rfl rfl rfl (by kernel_rfl) (by kernel_rfl) (by kernel_rfl) ?_ ?_ ?_
          · intro i _
            match i with
            | 0 => exact Any.lasts_val _
            | 1 => exact Any.lasts_val _
            | 2 => exact Any.lasts_val _
            | 3 => exact Any.lasts_val _
            | 4 => exact Any.lasts_val _
            | 5 => exact Any.lasts_val _
            | 6 => exact Any.lasts_made _ _ _
            | 7 => exact Any.lasts_val _
            | 8 => exact Any.lasts_val _
            | 9 => exact Any.lasts_val _
            | n + 10 => exact Any.lasts_idle
          · simp only [List.take_succ_cons, List.take_zero]
            refine ⟨?_, ?_, ?_, ?_, ?_, ?_, ?_, ?_, ?_, ?_, trivial⟩
            · refine Any.owes_plain rfl fun ρ wo hs' hb hc' => ?_
              have h16 : ρ (.tmp 16) = .pointer (some ⟨be, 13, none⟩) := hs'.old' 16 (by kernel_rfl)
              exact Any.ok_move (Any.post_val hb rfl h16)
            · refine Any.owes_plain rfl fun ρ wo hs' hb hc' => ?_
              have h16 : ρ (.tmp 16) = .pointer (some ⟨be, 13, none⟩) := hs'.old' 16 (by kernel_rfl)
              exact Any.ok_move (Any.post_val hb rfl h16)
            · refine Any.owes_plain rfl fun ρ wo hs' hb hc' => ?_
              have h72 : ρ (.tmp 72) = .pointer (some ⟨be, 13, none⟩) := hs'.new' 72 1 (by kernel_rfl)
              go_simp
              exact Any.post_val hb rfl rfl
            · refine Any.owes_plain rfl fun ρ wo hs' hb hc' => ?_
              have h73 : ρ (.tmp 73) = .pointer (some ⟨be, 13, none⟩) := hs'.new' 73 2 (by kernel_rfl)
              go_simp
              exact Any.post_val hb rfl rfl
            · refine Any.owes_plain rfl fun ρ wo hs' hb hc' => ?_
              have h74 : ρ (.tmp 74) = .pointer (some ⟨be, 14, none⟩) := hs'.new' 74 3 (by kernel_rfl)
              have c0 : wo.cell? ⟨be, 14, none⟩ = some (.string by0) := (HC7.out wo (below_undrew hb))
              go_simp
              exact Any.post_val hb rfl rfl
            · refine Any.owes_plain rfl fun ρ wo hs' hb hc' => ?_
              have h17 : ρ (.tmp 17) = .pointer (some ⟨wr.heap.size, 0, none⟩) := hs'.old' 17 (by kernel_rfl)
              have c0 : wo.cell? ⟨wr.heap.size, 0, none⟩ = some (.string by0) := cell_blk (blk (below_undrew hb) (lt_blk HX7.out) HX7.out) 0
              have c1 : wo.cell? ⟨wr.heap.size, 1, none⟩ = some (.string to0) := cell_blk (blk (below_undrew hb) (lt_blk HX7.out) HX7.out) 1
              have c2 : wo.cell? ⟨wr.heap.size, 2, none⟩ = some (.int .i64 0) := cell_blk (blk (below_undrew hb) (lt_blk HX7.out) HX7.out) 2
              have c3 : wo.cell? ⟨wr.heap.size, 3, none⟩ = some (.int .i64 d) := cell_blk (blk (below_undrew hb) (lt_blk HX7.out) HX7.out) 3
              go_simp
              exact Any.post_val hb rfl rfl
            · refine Any.owes_plain rfl fun ρ wo hs' hb hc' => ?_
              have h76 : ρ (.tmp 76) = .agg #[.string by0, .string to0, .int .i64 0, .int .i64 d] := hs'.new' 76 5 (by kernel_rfl)
              go_simp
              exact Any.post_new hb ⟨_, rfl, heap_alloc_new _ _⟩ (one_below _ _) (by intro b hb'; obtain rfl : wo.heap.size = b := Option.some.inj hb'; exact Nat.le_refl _)
            · refine Any.owes_plain rfl fun ρ wo hs' hb hc' => ?_
              have h75 : ρ (.tmp 75) = .string by0 := hs'.new' 75 4 (by kernel_rfl)
              have hf := hs'.func 72
              obtain ⟨g, hg, hgb⟩ := hs'.new' 77 6 (by kernel_rfl)
              have hsl : Sl wo 4 (.slice (some ⟨g, 0, none⟩) 1 1) ([(⟨by0, to0, 0, d⟩ : Ed)].map Ed.row) := one_sl hgb
              go_simp
              exact (HHO.out wo _ hsl).mono fun e w' ⟨he, hb'⟩ => ⟨_, he, Any.post_vals hb rfl rfl hb'⟩
            · refine Any.owes_plain rfl fun ρ wo hs' hb hc' => ?_
              have h71 : ρ (.tmp 71) = .pointer (some ⟨be, 13, none⟩) := hs'.new' 71 0 (by kernel_rfl)
              go_simp
              exact Any.post_val hb rfl rfl
            · refine Any.owes_plain rfl fun ρ wo hs' hb hc' => ?_
              have h79 : ρ (.tmp 79) = .pointer (some ⟨be, 13, none⟩) := hs'.new' 79 8 (by kernel_rfl)
              go_simp
              exact Any.post_val hb rfl rfl
          intro vals w8 hb hk
          have h7 : vals 7 = .string to0 := hk 7 (by kernel_rfl)
          have h9 : vals 9 = .pointer (some ⟨be, 14, none⟩) := hk 9 (by kernel_rfl)
          have HR8 := Lib.hid (HR7.out.below hb)
          have HK8 := Lib.hid (Keep.of_below (F := fun x => B ≤ x) hb)
          clear hk hb HC7
          simp only [List.take_succ_cons, List.take_zero, Any.putAll]
          go_frame
          simp only [Nat.zero_add, Nat.reduceAdd]
          rw [h7, h9]
          clear h7 h9
          have c8 : w8.cell? ⟨be, 14, none⟩ = some (.string F.o1.hd) := cell_blk HR8.out.box 14
          have f8 := free_blk HR8.out.box 14
          have HR9 : Hid (Reg B (w8.setCell ⟨be, 14, none⟩ (.string to0)) br bm be { F with o1 := ⟨F.o1.st, to0, F.o1.ch ++ [⟨by0, to0, 0, d⟩]⟩ } vb vp y0 v' y2 m) := Lib.hid (HR8.out.setCell rfl rfl rfl rfl HBR.out.1 HBR.out.2)
          go_simp
          go_wp2_with fail
          go_roundw
          case rel => exact ⟨2, y0, v', y2, by decide, rfl, (by rw [HFN.out]; exact HR9.out), HKP.out.trans (HKG.out.trans (HK7.out.trans (HK8.out.trans ((Keep.of_grown (grown_setC w8 be 14 _)).mono (fun i _ h => Option.some.inj h ▸ HBR2.out)) (fun _ _ h => h)) (fun _ _ h => h)) (fun _ _ h => h)) (fun _ _ h => h)⟩
          case measure => simp [intOf]
    · have hsplit : (idx == -1) = true ∨ ((idx == -1) = false ∧ (idx == 2) = true) ∨ ((idx == -1) = false ∧ (idx == 2) = false) := by
        cases (idx == -1) <;> cases (idx == 2) <;> simp
      rcases hsplit with hm | ⟨hm, hm2⟩ | ⟨hm, hm2⟩
      rotate_left 2
      · have HM : Hid (endN E idx ⟨by0, to0, 0, d⟩ 3 = endN E idx ⟨by0, to0, 0, d⟩ 2) := Lib.hid (endN_miss2 (by have e : hitB idx 2 = (idx == -1 || idx == 2) := rfl; rw [e, hm, hm2]; rfl))
        go_wp2_with fail
        go_roundw
        case rel => exact ⟨3, y0, y1, y2, by decide, rfl, (by rw [HM.out]; exact HRG.out), HKP.out⟩
        case measure => simp [intOf]
      all_goals
        have hh : hitB idx 2 = true := by
          have e : hitB idx 2 = (idx == -1 || idx == 2) := rfl
          rw [e]
          simp [*]
        obtain ⟨hfn, hfo⟩ := endN_hit2 (E := E) (g := ⟨by0, to0, 0, d⟩) hh
        have hhd := HFD.out.hd 2 (by decide) hh
        have hln := HLN.out 2 (by decide)
        rw [← hfo] at hhd hln
        have HFN := Lib.hid hfn
        have HRG := HRG
        clear hh hfo hfn
        generalize endN E idx ⟨by0, to0, 0, d⟩ 2 = F at *
        have HHD := Lib.hid hhd
        have HLF := Lib.hid hln
        clear hhd hln
        obtain ⟨wg, hwg⟩ : ∃ x, x = wr.alloc (.cells #[.string by0, .string to0, .int .i64 0, .int .i64 d] 75 (0, 0)) := ⟨_, rfl⟩
        have HWG := Lib.hid hwg
        have HXG : Hid (wg.heap[wr.heap.size]? = some (.cells #[.string by0, .string to0, .int .i64 0, .int .i64 d] 75 (0, 0))) := Lib.hid (hwg ▸ heap_alloc_new wr _)
        have hbw : Below wr.heap.size wr wg := hwg ▸ one_below wr _
        have HBG : Hid (Below wr.heap.size wr wg ∧ B ≤ wg.heap.size) := Lib.hid ⟨hbw, Nat.le_trans HBS.out (Nat.le_trans (Nat.le_of_lt (lt_blk HRG.out.box)) hbw.size)⟩
        have HKG : Hid (Keep (fun x => B ≤ x) wr wg) := Lib.hid (Keep.of_below hbw)
        have HBE : Hid (be < wr.heap.size ∧ ∀ b, y2.ownBlock = some b → b < wr.heap.size) := Lib.hid ⟨lt_blk HRG.out.box, fun b e => (HRG.out.r2.lt b e).2⟩
        have HRG := Lib.hid (HRG.out.below hbw)
        clear hwg hbw
        go_upto_region 11 with (first
          | (refine wpList_store_row (P := Tryz.prog) rfl 75 (.tmp 17) (.tmp 60) rfl wr.heap.size #[.string by0, .string to0, .int .i64 0, .int .i64 d] rfl rfl _ _ (heap_alloc_new wr _) (by kernel_rfl) rfl (by simp [Value.oneCell']) ?_; rw [setRow_new, ← HWG.out])
          | fail)
        have HNF : Hid (¬ (wr.heap.size = be ∨ y2.ownBlock = some wr.heap.size)) := Lib.hid (fun hh => hh.elim (fun e => by have := HBE.out.1; omega) (fun e => Nat.lt_irrefl _ (HBE.out.2 _ e)))
        have HBX : Hid (wg.heap[be]? = some (.cells (F.cells vb vp y0 y1 y2) 152 (0, 0))) := Lib.hid HRG.out.box
        have HROW : Hid (wg.ownsRow 0 75 4 y2 F.o2.ch.length (edCells F.o2.ch)) := Lib.hid (ownsRow_base HRG.out.r2 (Nat.zero_le _))
        have HNE : Hid (∀ k, y2.ownBlock = some k → ¬ k = be) := Lib.hid fun k hk e => row_off HRG.out.r2 HRG.out.box (by decide) (e ▸ hk)
        have HL : Hid (F.o2.ch.length + 1 ≤ maxLen ∧ (F.o2.ch.length + 1) * 48 ≤ 140737488355328) := Lib.hid (by have h1 := HLF.out; simp only [maxLen]; omega)
        refine Ord.region_lit (fun
          | 0 => Ord.val (.pointer (some ⟨be, 16, none⟩))
          | 1 => Ord.val (.pointer (some ⟨be, 16, none⟩))
          | 2 => Ord.val (.pointer (some ⟨be, 16, none⟩))
          | 3 => Ord.val (.pointer (some ⟨be, 18, none⟩))
          | 4 => Ord.val (y2)
          | 5 => Ord.val (.agg #[.string by0, .string to0, .int .i64 0, .int .i64 d])
          | 6 => Ord.one 75 #[.string by0, .string to0, .int .i64 0, .int .i64 d]
          | 7 => Ord.grown 75 4 (F.o2.ch.length + 1) (edCells F.o2.ch ++ [.string by0, .string to0, .int .i64 0, .int .i64 d]) 6 (y2)
          | 8 => Ord.val (.pointer (some ⟨be, 16, none⟩))
          | 9 => Ord.val (.pointer (some ⟨be, 18, none⟩))
          | 10 => Ord.kept 75 4 (F.o2.ch.length + 1) (edCells F.o2.ch ++ [.string by0, .string to0, .int .i64 0, .int .i64 d]) (be) (fun v => F.cells vb vp y0 y1 v) 152 7
          | _ => Ord.idle) (fun k => k = be ∨ (y2).ownBlock = some k) (by kernel_rfl) (by kernel_rfl) (by kernel_rfl) ?_ ?_ ?_ ?_
        · intro i _
          match i with
          | 0 => exact Ord.lasts_val _
          | 1 => exact Ord.lasts_val _
          | 2 => exact Ord.lasts_val _
          | 3 => exact Ord.lasts_val _
          | 4 => exact Ord.lasts_val _
          | 5 => exact Ord.lasts_val _
          | 6 => exact Ord.lasts_one _ _
          | 7 => exact Ord.lasts_grown _ _ _ _ _ _
          | 8 => exact Ord.lasts_val _
          | 9 => exact Ord.lasts_val _
          | 10 => exact Ord.lasts_kept _ _ _ _ _ _ _ _
          | n + 11 => exact Ord.lasts_idle
        · refine ⟨fun k b _ hh => ?_, fun k b _ hh => ?_, fun k k' b _ _ hne h1 h2 => ?_⟩
          · match k, hh with
            | 0, hh => exact hh.elim
            | 1, hh => exact hh.elim
            | 2, hh => exact hh.elim
            | 3, hh => exact hh.elim
            | 4, hh => exact hh.elim
            | 5, hh => exact hh.elim
            | 6, hh => exact hh.elim
            | 7, hh => exact .inr hh
            | 8, hh => exact hh.elim
            | 9, hh => exact hh.elim
            | 10, hh => exact .inl hh
            | m + 11, hh => exact hh.elim
          · match k, hh with
            | 0, hh => exact hh.elim
            | 1, hh => exact hh.elim
            | 2, hh => exact hh.elim
            | 3, hh => exact hh.elim
            | 4, hh => exact hh.elim
            | 5, hh => exact hh.elim
            | 6, hh => exact hh.elim
            | 7, hh => exact (HROW.out.lt b hh).2
            | 8, hh => exact hh.elim
            | 9, hh => exact hh.elim
            | 10, hh => exact hh ▸ lt_blk HBX.out
            | m + 11, hh => exact hh.elim
          · have a : (k = 7 ∧ (fun k => (y2).ownBlock = some k) b) ∨ (k = 10 ∧ (fun k => k = be) b) := by
              match k, h1 with
              | 0, hh => exact hh.elim
              | 1, hh => exact hh.elim
              | 2, hh => exact hh.elim
              | 3, hh => exact hh.elim
              | 4, hh => exact hh.elim
              | 5, hh => exact hh.elim
              | 6, hh => exact hh.elim
              | 7, hh => exact .inl ⟨rfl, hh⟩
              | 8, hh => exact hh.elim
              | 9, hh => exact hh.elim
              | 10, hh => exact Or.inr (⟨rfl, hh⟩)
              | m + 11, hh => exact hh.elim
            have a' : (k' = 7 ∧ (fun k => (y2).ownBlock = some k) b) ∨ (k' = 10 ∧ (fun k => k = be) b) := by
              match k', h2 with
              | 0, hh => exact hh.elim
              | 1, hh => exact hh.elim
              | 2, hh => exact hh.elim
              | 3, hh => exact hh.elim
              | 4, hh => exact hh.elim
              | 5, hh => exact hh.elim
              | 6, hh => exact hh.elim
              | 7, hh => exact .inl ⟨rfl, hh⟩
              | 8, hh => exact hh.elim
              | 9, hh => exact hh.elim
              | 10, hh => exact Or.inr (⟨rfl, hh⟩)
              | m + 11, hh => exact hh.elim
            rcases a with ⟨rfl, a⟩ | ⟨rfl, a⟩ <;> rcases a' with ⟨rfl, a'⟩ | ⟨rfl, a'⟩
            all_goals first | exact absurd rfl hne | (first | exact HNE.out _ a a' | exact HNE.out _ a' a)
        · refine ⟨?_, ?_, ?_, ?_, ?_, ?_, ?_, ?_, ?_, ?_, ?_, trivial⟩
          · refine Ord.owes_plain rfl fun ρ Os wo hs' hb hc' => ?_
            have h16 : ρ (.tmp 16) = .pointer (some ⟨be, 16, none⟩) := hs'.old' 16 (by kernel_rfl)
            exact Any.ok_move (Ord.post_val rfl h16)
          · refine Ord.owes_plain rfl fun ρ Os wo hs' hb hc' => ?_
            have h16 : ρ (.tmp 16) = .pointer (some ⟨be, 16, none⟩) := hs'.old' 16 (by kernel_rfl)
            exact Any.ok_move (Ord.post_val rfl h16)
          · refine Ord.owes_plain rfl fun ρ Os wo hs' hb hc' => ?_
            have h62 : ρ (.tmp 62) = .pointer (some ⟨be, 16, none⟩) := hs'.val' 62 1 (by kernel_rfl) rfl
            go_simp
            exact Ord.post_val rfl rfl
          · refine Ord.owes_plain rfl fun ρ Os wo hs' hb hc' => ?_
            have h63 : ρ (.tmp 63) = .pointer (some ⟨be, 16, none⟩) := hs'.val' 63 2 (by kernel_rfl) rfl
            go_simp
            exact Ord.post_val rfl rfl
          · refine Ord.owes_plain rfl fun ρ Os wo hs' hb hc' => ?_
            have h64 : ρ (.tmp 64) = .pointer (some ⟨be, 18, none⟩) := hs'.val' 64 3 (by kernel_rfl) rfl
            have c0 : wo.cell? ⟨be, 18, none⟩ = some (y2) := cell_blk ((hs'.early' 10 (by kernel_rfl) _ rfl).trans HBX.out) 18
            go_simp
            exact Ord.post_val rfl rfl
          · refine Ord.owes_plain rfl fun ρ Os wo hs' hb hc' => ?_
            have h17 : ρ (.tmp 17) = .pointer (some ⟨wr.heap.size, 0, none⟩) := hs'.old' 17 (by kernel_rfl)
            have c0 : wo.cell? ⟨wr.heap.size, 0, none⟩ = some (.string by0) := cell_blk ((hb.block _ (lt_blk HXG.out) HNF.out).trans HXG.out) 0
            have c1 : wo.cell? ⟨wr.heap.size, 1, none⟩ = some (.string to0) := cell_blk ((hb.block _ (lt_blk HXG.out) HNF.out).trans HXG.out) 1
            have c2 : wo.cell? ⟨wr.heap.size, 2, none⟩ = some (.int .i64 0) := cell_blk ((hb.block _ (lt_blk HXG.out) HNF.out).trans HXG.out) 2
            have c3 : wo.cell? ⟨wr.heap.size, 3, none⟩ = some (.int .i64 d) := cell_blk ((hb.block _ (lt_blk HXG.out) HNF.out).trans HXG.out) 3
            go_simp
            exact Ord.post_val rfl rfl
          · refine Ord.owes_plain rfl fun ρ Os wo hs' hb hc' => ?_
            have h66 : ρ (.tmp 66) = .agg #[.string by0, .string to0, .int .i64 0, .int .i64 d] := hs'.val' 66 5 (by kernel_rfl) rfl
            go_simp
            exact Ord.post_one rfl
          · refine Ord.owes_plain rfl fun ρ Os wo hs' hb hc' => ?_
            have h65 : ρ (.tmp 65) = y2 := hs'.val' 65 4 (by kernel_rfl) rfl
            exact Ord.ok_grown Tryz.underlying70 HI.out.1 HI.out.2.1 HI.out.2.2.1 HI.out.2.2.2 rfl (by decide) h65 (hs'.new' 67 6 (by kernel_rfl)) HROW.out hs'.here rfl (by simp [Value.oneCell']) HL.out.1 HL.out.2 rfl
          · refine Ord.owes_plain rfl fun ρ Os wo hs' hb hc' => ?_
            have h61 : ρ (.tmp 61) = .pointer (some ⟨be, 16, none⟩) := hs'.val' 61 0 (by kernel_rfl) rfl
            go_simp
            exact Ord.post_val rfl rfl
          · refine Ord.owes_plain rfl fun ρ Os wo hs' hb hc' => ?_
            have h69 : ρ (.tmp 69) = .pointer (some ⟨be, 16, none⟩) := hs'.val' 69 8 (by kernel_rfl) rfl
            go_simp
            exact Ord.post_val rfl rfl
          · refine Ord.owes_plain rfl fun ρ Os wo hs' hb hc' => ?_
            have h70 : ρ (.tmp 70) = .pointer (some ⟨be, 18, none⟩) := hs'.val' 70 9 (by kernel_rfl) rfl
            exact Ord.ok_kept h70 (hs'.new' 68 7 (by kernel_rfl)) HBX.out (hs'.here _ rfl) (show 18 < 19 from (by decide)) (by decide) (fun _ => rfl) (fun _ => by kernel_rfl) rfl
        · intro vals Os ρs w7 hk hkn hln hap hbd
          obtain ⟨v', r1, r2, r3⟩ := hkn 10 (by kernel_rfl)
          have hbd := hbd 10 (by kernel_rfl)
          have HR7 := Lib.hid (HRG.out.grow2 (g := ⟨by0, to0, 0, d⟩) hk r2 (by simpa [Ed.row, Ed.cells] using r1) (fun b e => (hbd b ((r3 b).2 (.inr e))).elim .inr (fun hh => hh.elim (fun e2 => absurd e (e2 ▸ row_off r1 r2 (by decide))) .inl)) HBR.out.1 HBR.out.2 HBG.out.2)
          have HK7 := Lib.hid (hk.mono (G := fun x => B ≤ x) (fun i _ hh => hh.elim (fun e => e ▸ HBR2.out) (fun e => (HRG.out.r2.lt i e).1)))
          have HX7 : Hid (w7.heap[wr.heap.size]? = some (.cells #[.string by0, .string to0, .int .i64 0, .int .i64 d] 75 (0, 0))) := Lib.hid (hk.blk HXG.out HNF.out)
          clear hkn hln hap hbd r1 r2 r3 hk HBX HROW HNE HRG
          simp only [Any.putAll]
          go_frame
          simp only [Nat.zero_add, Nat.reduceAdd]
          go_wp2_with fail
          have HC7 : Hid (∀ W, Below w7.heap.size w7 W → W.cell? ⟨be, 17, none⟩ = some (.string by0)) := Lib.hid fun W hW => by
            have hc : w7.cell? ⟨be, 17, none⟩ = some (.string F.o2.hd) := cell_blk HR7.out.box 17
            rw [HHD.out] at hc
            exact (hW.cell (p := ⟨be, 17, none⟩) (lt_blk HR7.out.box)).trans hc
          refine Any.region_litL (fun
            | 0 => Any.val (.pointer (some ⟨be, 16, none⟩))
            | 1 => Any.val (.pointer (some ⟨be, 16, none⟩))
            | 2 => Any.val (.pointer (some ⟨be, 16, none⟩))
            | 3 => Any.val (.pointer (some ⟨be, 17, none⟩))
            | 4 => Any.val (.string by0)
            | 5 => Any.val (.agg #[.string by0, .string to0, .int .i64 0, .int .i64 d])
            | 6 => Any.made 75 1 #[.string by0, .string to0, .int .i64 0, .int .i64 d]
            | 7 => Any.val (.string to0)
            | 8 => Any.val (.pointer (some ⟨be, 16, none⟩))
            | 9 => Any.val (.pointer (some ⟨be, 17, none⟩))
            | _ => Any.idle) 10 _ (by kernel_rfl) rfl rfl rfl (by kernel_rfl) (by kernel_rfl) (by kernel_rfl) ?_ ?_ ?_
          · intro i _
            match i with
            | 0 => exact Any.lasts_val _
            | 1 => exact Any.lasts_val _
            | 2 => exact Any.lasts_val _
            | 3 => exact Any.lasts_val _
            | 4 => exact Any.lasts_val _
            | 5 => exact Any.lasts_val _
            | 6 => exact Any.lasts_made _ _ _
            | 7 => exact Any.lasts_val _
            | 8 => exact Any.lasts_val _
            | 9 => exact Any.lasts_val _
            | n + 10 => exact Any.lasts_idle
          · simp only [List.take_succ_cons, List.take_zero]
            refine ⟨?_, ?_, ?_, ?_, ?_, ?_, ?_, ?_, ?_, ?_, trivial⟩
            · refine Any.owes_plain rfl fun ρ wo hs' hb hc' => ?_
              have h16 : ρ (.tmp 16) = .pointer (some ⟨be, 16, none⟩) := hs'.old' 16 (by kernel_rfl)
              exact Any.ok_move (Any.post_val hb rfl h16)
            · refine Any.owes_plain rfl fun ρ wo hs' hb hc' => ?_
              have h16 : ρ (.tmp 16) = .pointer (some ⟨be, 16, none⟩) := hs'.old' 16 (by kernel_rfl)
              exact Any.ok_move (Any.post_val hb rfl h16)
            · refine Any.owes_plain rfl fun ρ wo hs' hb hc' => ?_
              have h72 : ρ (.tmp 72) = .pointer (some ⟨be, 16, none⟩) := hs'.new' 72 1 (by kernel_rfl)
              go_simp
              exact Any.post_val hb rfl rfl
            · refine Any.owes_plain rfl fun ρ wo hs' hb hc' => ?_
              have h73 : ρ (.tmp 73) = .pointer (some ⟨be, 16, none⟩) := hs'.new' 73 2 (by kernel_rfl)
              go_simp
              exact Any.post_val hb rfl rfl
            · refine Any.owes_plain rfl fun ρ wo hs' hb hc' => ?_
              have h74 : ρ (.tmp 74) = .pointer (some ⟨be, 17, none⟩) := hs'.new' 74 3 (by kernel_rfl)
              have c0 : wo.cell? ⟨be, 17, none⟩ = some (.string by0) := (HC7.out wo (below_undrew hb))
              go_simp
              exact Any.post_val hb rfl rfl
            · refine Any.owes_plain rfl fun ρ wo hs' hb hc' => ?_
              have h17 : ρ (.tmp 17) = .pointer (some ⟨wr.heap.size, 0, none⟩) := hs'.old' 17 (by kernel_rfl)
              have c0 : wo.cell? ⟨wr.heap.size, 0, none⟩ = some (.string by0) := cell_blk (blk (below_undrew hb) (lt_blk HX7.out) HX7.out) 0
              have c1 : wo.cell? ⟨wr.heap.size, 1, none⟩ = some (.string to0) := cell_blk (blk (below_undrew hb) (lt_blk HX7.out) HX7.out) 1
              have c2 : wo.cell? ⟨wr.heap.size, 2, none⟩ = some (.int .i64 0) := cell_blk (blk (below_undrew hb) (lt_blk HX7.out) HX7.out) 2
              have c3 : wo.cell? ⟨wr.heap.size, 3, none⟩ = some (.int .i64 d) := cell_blk (blk (below_undrew hb) (lt_blk HX7.out) HX7.out) 3
              go_simp
              exact Any.post_val hb rfl rfl
            · refine Any.owes_plain rfl fun ρ wo hs' hb hc' => ?_
              have h76 : ρ (.tmp 76) = .agg #[.string by0, .string to0, .int .i64 0, .int .i64 d] := hs'.new' 76 5 (by kernel_rfl)
              go_simp
              exact Any.post_new hb ⟨_, rfl, heap_alloc_new _ _⟩ (one_below _ _) (by intro b hb'; obtain rfl : wo.heap.size = b := Option.some.inj hb'; exact Nat.le_refl _)
            · refine Any.owes_plain rfl fun ρ wo hs' hb hc' => ?_
              have h75 : ρ (.tmp 75) = .string by0 := hs'.new' 75 4 (by kernel_rfl)
              have hf := hs'.func 72
              obtain ⟨g, hg, hgb⟩ := hs'.new' 77 6 (by kernel_rfl)
              have hsl : Sl wo 4 (.slice (some ⟨g, 0, none⟩) 1 1) ([(⟨by0, to0, 0, d⟩ : Ed)].map Ed.row) := one_sl hgb
              go_simp
              exact (HHO.out wo _ hsl).mono fun e w' ⟨he, hb'⟩ => ⟨_, he, Any.post_vals hb rfl rfl hb'⟩
            · refine Any.owes_plain rfl fun ρ wo hs' hb hc' => ?_
              have h71 : ρ (.tmp 71) = .pointer (some ⟨be, 16, none⟩) := hs'.new' 71 0 (by kernel_rfl)
              go_simp
              exact Any.post_val hb rfl rfl
            · refine Any.owes_plain rfl fun ρ wo hs' hb hc' => ?_
              have h79 : ρ (.tmp 79) = .pointer (some ⟨be, 16, none⟩) := hs'.new' 79 8 (by kernel_rfl)
              go_simp
              exact Any.post_val hb rfl rfl
          intro vals w8 hb hk
          have h7 : vals 7 = .string to0 := hk 7 (by kernel_rfl)
          have h9 : vals 9 = .pointer (some ⟨be, 17, none⟩) := hk 9 (by kernel_rfl)
          have HR8 := Lib.hid (HR7.out.below hb)
          have HK8 := Lib.hid (Keep.of_below (F := fun x => B ≤ x) hb)
          clear hk hb HC7
          simp only [List.take_succ_cons, List.take_zero, Any.putAll]
          go_frame
          simp only [Nat.zero_add, Nat.reduceAdd]
          rw [h7, h9]
          clear h7 h9
          have c8 : w8.cell? ⟨be, 17, none⟩ = some (.string F.o2.hd) := cell_blk HR8.out.box 17
          have f8 := free_blk HR8.out.box 17
          have HR9 : Hid (Reg B (w8.setCell ⟨be, 17, none⟩ (.string to0)) br bm be { F with o2 := ⟨F.o2.st, to0, F.o2.ch ++ [⟨by0, to0, 0, d⟩]⟩ } vb vp y0 y1 v' m) := Lib.hid (HR8.out.setCell rfl rfl rfl rfl HBR.out.1 HBR.out.2)
          go_simp
          go_wp2_with fail
          go_roundw
          case rel => exact ⟨3, y0, y1, v', by decide, rfl, (by rw [HFN.out]; exact HR9.out), HKP.out.trans (HKG.out.trans (HK7.out.trans (HK8.out.trans ((Keep.of_grown (grown_setC w8 be 17 _)).mono (fun i _ h => Option.some.inj h ▸ HBR2.out)) (fun _ _ h => h)) (fun _ _ h => h)) (fun _ _ h => h)) (fun _ _ h => h)⟩
          case measure => simp [intOf]
    · go_wp2_with fail
      go_ret
      exact ⟨0, y0, y1, y2, rfl, HRG.out, HKP.out⟩
  · rw [if_neg hc]
    have t1 : (askC (endA idx by0 to0 d) E != 0) = true := by rw [bne_iff_ne]; exact hc
    generalize askC (endA idx by0 to0 d) E = cd at *
    have hq : wrongE by0 to0 = (!nameOk to0 || (to0.toList == by0.toList)) := rfl
    simp only [endA, hq, Ac.cells] at HA
    generalize nameOk to0 = q1 at *
    generalize hq2 : (to0.toList == by0.toList) = q2 at *
    clear h hc hbr hbm hB hl hn hq
    cases q1 <;> cases q2
    all_goals
      simp only [Bool.not_true, Bool.not_false, Bool.or_true, Bool.or_false] at HA
      go_enter Tryz.func17, Tryz.ntmps17
      go_wp2_with (first
        | ((with_reducible refine (HNM.out _).mono ?_); rintro en w1 ⟨rfl, hb1⟩; have HB1 := Lib.hid hb1; clear hb1)
        | ((with_reducible refine (HA.out _ HB1.out).mono ?_); rintro en w2 ⟨rfl, hb2⟩; have HB2 := Lib.hid (HB1.out.trans (hb2.mono HB1.out.size)); have HH2 := Lib.hid (HH.out.below HB2.out); clear hb2)
        | fail)
      go_ret
      exact ⟨cd, v0, v1, v2, rfl, HH2.out, Keep.of_below HB2.out⟩
end Go.Proofs.YtbigoifpfkdkjaaGreatDoor.Sc
