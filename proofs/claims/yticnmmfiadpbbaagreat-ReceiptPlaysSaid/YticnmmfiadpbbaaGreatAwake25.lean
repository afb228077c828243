/- The chapter's example. -/
import Derived.Test.YticnmmfiadpbbaaGreatBox25
import Derived.Test.YticnmmfiadpbbaaGreatRfQ25
import Derived.Test.YticnmmfiadpbbaaGreatOutH25
import Derived.Test.YticnmmfiadpbbaaGreatTell25
namespace Go.Proofs.YticnmmfiadpbbaaGreat.Sc
open Go Go.RowKit Go.ChangeShapes Go.WideShapes Go.ChangeAt
set_option maxRecDepth 100000

theorem doRes : (Tryz.f19).results = #[.tmp 6, .cell 7 29, .tmp 8] := by kernel_rfl
theorem RefH.shape {w : World} {x : Value} {h : Hs} (r : RefH w x h) : ∃ a m c a' m' c', x = .agg #[.string h.name, .slice a m c, .slice a' m' c'] := by
  obtain ⟨M, vL, vU, rfl, -, h2, -, h4⟩ := r
  obtain ⟨a, c, rfl⟩ := h2.shape
  obtain ⟨a', c', rfl⟩ := h4.shape
  exact ⟨_, _, _, _, _, _, rfl⟩
theorem nameOk_nil : nameOk ⟨#[]⟩ = false := by decide
theorem used_full {k : Nat} {h : Hs} (o : HsOk k h) : ∀ t ∈ h.used, t ≠ ⟨#[]⟩ := fun t ht e => by
  have := o.nm t ht
  rw [e, nameOk_nil] at this
  cases this
/-- Behind do: what both calls told, and both houses. -/
def DoP (w : World) (bh bm bu : Nat) (P1 P2 : Hs) (C1 C2 : Int) (e : Ending) (w' : World) : Prop :=
  ∃ y, e = .returned (.tuple #[.int .i64 C1, y, .int .i64 C2]) ∧ Keep (fun b => b = bm ∨ b = bu) w w' ∧ Hsx w' bh bm bu P1 ∧ RefH w' y P2
set_option maxHeartbeats 16000000 in
theorem do_any {k : Nat} {hp hr : Hs} {bh bm bu : Nat} (o : Opv) (x : Value) (w : World) (H : Hsx w bh bm bu hp) (R : RefH w x hr) (hk : HsOk k hp) (hk' : HsOk k hr) (ha : o.at w) (hf : o.fit) (hs : o.small) (hkk : k ≤ 1000) :
    Calls Tryz.prog 19 #[.pointer (some ⟨bh, 0, none⟩), x, .agg o.cells] w (DoP w bh bm bu (opH hp o.rop) (opH hr o.rop) (opC hp o.rop) (opC hr o.rop)) := by
  have hok2 := hk'.op o.rop
  obtain ⟨xk, xn, xb, xt, xd, xl, xs, xp, lv, nv, pv⟩ := o
  obtain ⟨hal, han, hap⟩ := ha
  simp only at hal han hap
  obtain ⟨al, cl, rfl⟩ : ∃ a c, lv = .slice a xl.length c := by simpa using hal.shape
  obtain ⟨an, cn, rfl⟩ : ∃ a c, nv = .slice a xs.length c := by simpa using han.shape
  obtain ⟨ap, cp, rfl⟩ : ∃ a c, pv = .slice a xp.length c := by simpa using hap.1.shape
  simp only [Opv.rop, Opv.cells] at hok2 ⊢
  obtain ⟨ax, mx, cx, ay, my, cy, rfl⟩ := R.shape
  obtain ⟨nx, hnx⟩ : ∃ n, n = hr.name := ⟨_, rfl⟩
  rw [← hnx] at R ⊢
  have HA := allocs [.cells #[.string nx, .slice ax mx cx, .slice ay my cy] 29, .cells #[.int .i64 xk, .string xn, .string xb, .string xt, .int .i64 xd, .slice al xl.length cl, .slice an xs.length cn, .slice ap xp.length cp] 43,
    .cells #[.string ⟨#[]⟩, .slice none 0 0, .slice none 0 0] 29] w
  simp only [List.foldl_cons, List.foldl_nil, List.length_cons, List.length_nil] at HA
  obtain ⟨W0, hW0⟩ : ∃ W, ((w.alloc (.cells #[.string nx, .slice ax mx cx, .slice ay my cy] 29)).alloc (.cells #[.int .i64 xk, .string xn, .string xb, .string xt, .int .i64 xd, .slice al xl.length cl, .slice an xs.length cn, .slice ap xp.length cp] 43)).alloc (.cells #[.string ⟨#[]⟩, .slice none 0 0, .slice none 0 0] 29) = W := ⟨_, rfl⟩
  rw [hW0] at HA
  obtain ⟨hb, hz, hx⟩ := HA
  have HXX0 := Lib.hid (hx 0 _ rfl)
  have HXO0 := Lib.hid (hx 1 _ rfl)
  have HXR0 := Lib.hid (hx 2 _ rfl)
  have HB0 := Lib.hid hb
  have HH0 := Lib.hid (H.below hb)
  have HR0 := Lib.hid (R.below hb)
  have HNZ := Lib.hid (used_full hok2)
  have HFI := Lib.hid hf
  have HSM := Lib.hid hs
  have HOK := Lib.hid (And.intro hk hk')
  have HLE : Hid (hp.L.length ≤ 64000 ∧ hp.used.length ≤ 64000 ∧ hr.L.length ≤ 64000 ∧ hr.used.length ≤ 64000) := Lib.hid (by
    have h1 := hk.len; have h2 := hk.ul; have h3 := hk'.len; have h4 := hk'.ul; omega)
  have HAL0 := Lib.hid (hal.below hb (Nat.le_refl _))
  have HAN0 := Lib.hid (han.below hb (Nat.le_refl _))
  have HAP0 := Lib.hid (hap.below hb)
  clear hb hz hx H R hok2 hf hs hk hk' hkk hal han hap hnx
  by_cases hk1 : xk = 1
  · have t1 : (xk == 1) = true := by simp [hk1]
    have EC1 : opC hp ⟨xk, xn, xb, xt, xd, xl, xs, npSnd xp⟩ = storeC hp xn xb xd xl := by rw [opC, if_pos hk1]
    have EC2 : opC hr ⟨xk, xn, xb, xt, xd, xl, xs, npSnd xp⟩ = storeC hr xn xb xd xl := by rw [opC, if_pos hk1]
    have EH1 : opH hp ⟨xk, xn, xb, xt, xd, xl, xs, npSnd xp⟩ = storeH hp xn xb xd xl := by rw [opH, if_pos hk1]
    have EH2 : opH hr ⟨xk, xn, xb, xt, xd, xl, xs, npSnd xp⟩ = storeH hr xn xb xd xl := by rw [opH, if_pos hk1]
    rw [EH2] at HNZ
    rw [EC1, EC2, EH1, EH2]
    have HRF : Hid (Calls Tryz.prog 53 #[.agg #[.string nx, .slice ax mx cx, .slice ay my cy], .string xn, .string xb, .int .i64 xd, .slice al xl.length cl] W0 (HouseP W0 (storeH hr xn xb xd xl) (storeC hr xn xb xd xl))) := Lib.hid (by
      obtain ⟨h1, h2, h3, h4⟩ := HLE.out
      have hfit := HFI.out
      exact refStore_any _ xn xb xd xl _ W0 HR0.out hfit.num hfit.by' HAL0.out hfit.lots (by omega) (by omega))
    have HPQ : Hid (∀ w2 : World, Below W0.heap.size W0 w2 → Hsx w2 bh bm bu hp → Calls Tryz.prog 14 #[.pointer (some ⟨bh, 0, none⟩), .string xn, .string xb, .int .i64 xd, .slice al xl.length cl] w2 (HsP w2 bh bm bu (storeH hp xn xb xd xl) (storeC hp xn xb xd xl))) := Lib.hid (fun w2 hb HH2 => by
      obtain ⟨h1, h2, h3, h4⟩ := HLE.out
      exact storeH_any xn xb xd xl _ w2 HH2 HOK.out.1 (HAL0.out.below hb (Nat.le_refl _)) (by omega))
    generalize storeH hp xn xb xd xl = P1 at *
    generalize storeH hr xn xb xd xl = P2 at *
    generalize storeC hp xn xb xd xl = C1 at *
    generalize storeC hr xn xb xd xl = C2 at *
    clear EC1 EC2 EH1 EH2 hk1 HR0 HFI HSM HLE HOK HAL0 HAN0 HAP0 HXX0
    subst hW0
    go_enter Tryz.func19, Tryz.ntmps19
    go_wp2_with (first
      | ((with_reducible refine (HRF.out).mono ?_); rintro e w1 ⟨hb1, y, rfl, hr1⟩; obtain ⟨a2, m2, c2, a3, m3, c3, ey⟩ := hr1.shape; subst ey; have HR1 := Lib.hid hr1; have HB1 := Lib.hid hb1; have HXO1 := Lib.hid (blk hb1 (lt_blk HXO0.out) HXO0.out); obtain ⟨x0, x1, x2, x3, x4, x5, x6, x7⟩ := cells8 HXO1.out; clear hb1 hr1)
      | fail)
    clear x0 x1 x2 x3 x4 x5 x6 x7
    obtain ⟨n2, hn2⟩ : ∃ n, n = P2.name := ⟨_, rfl⟩
    rw [← hn2] at HR1 ⊢
    have hbq := one_below w1 (.cells #[.string n2, .slice a2 m2 c2, .slice a3 m3 c3] 29)
    have hx9 := heap_alloc_new w1 (.cells #[.string n2, .slice a2 m2 c2, .slice a3 m3 c3] 29)
    obtain ⟨w2, hw2⟩ : ∃ W, W = w1.alloc (.cells #[.string n2, .slice a2 m2 c2, .slice a3 m3 c3] 29) := ⟨_, rfl⟩
    obtain ⟨b9, hb9⟩ : ∃ b, b = w1.heap.size := ⟨_, rfl⟩
    rw [← hw2] at hbq hx9 ⊢
    have hbd : Below w2.heap.size w2 w2.drew := (Below.refl _ _).drew
    have hbx : Below w1.heap.size w1 w2.drew := hbq.trans (hbd.mono hbq.size)
    have hbv := HB1.out.trans (hbx.mono HB1.out.size)
    have HBW := Lib.hid (HB0.out.trans (hbv.mono HB0.out.size))
    have HXO := Lib.hid (blk hbv (lt_blk HXO0.out) HXO0.out)
    have HXR := Lib.hid (blk hbv (lt_blk HXR0.out) HXR0.out)
    have hx9' := blk hbd (lt_blk hx9) hx9
    rw [← hb9] at hx9' ⊢
    have HX9 := Lib.hid hx9'
    have HH2 := Lib.hid (HH0.out.below hbv)
    have HR2 := Lib.hid (HR1.out.below hbx)
    have HMP := Lib.hid HH2.out.maps
    have HPR := Lib.hid (HPQ.out w2.drew hbv HH2.out)
    have HEND : Hid (∀ u : World, Keep (fun b => b = bm ∨ b = bu) w2.drew u → Hsx u bh bm bu P1 → u.heap[w.heap.size + 2]? = some (.cells #[.string ⟨#[]⟩, .slice none 0 0, .slice none 0 0] 29 (0, 0)) → DoP w bh bm bu P1 P2 C1 C2 (.returned (.tuple #[.int .i64 C1, .agg #[.string n2, .slice a2 m2 c2, .slice a3 m3 c3], .int .i64 C2])) (u.setRow (w.heap.size + 2) #[.string n2, .slice a2 m2 c2, .slice a3 m3 c3])) := Lib.hid (fun u hk hh hx =>
      ⟨_, rfl, ((Keep.of_below (F := fun b => b = bm ∨ b = bu) HBW.out).trans hk fun _ _ e => e).trans (setRow_keep _ _ _) (fun b hb e => absurd hb (by omega)), hh.boxed hx _, (HR2.out.keepM hk HMP.out).boxed hx (.inr HNZ.out)⟩)
    clear hbq hx9 hw2 hb9 hbd hbx hbv hx9' hn2 HB1 HR1 HXO1 HB0 HXO0 HXR0 HH0 HPQ HRF HNZ
    refine Stg.region_lit (fun
      | 0 => .pointer (some ⟨bh, 0, none⟩)
      | 1 => .pointer (some ⟨w.heap.size + 1, 1, none⟩)
      | 2 => .string xn
      | 3 => .pointer (some ⟨w.heap.size + 1, 2, none⟩)
      | 4 => .string xb
      | 5 => .pointer (some ⟨w.heap.size + 1, 4, none⟩)
      | 6 => .int .i64 xd
      | 7 => .pointer (some ⟨w.heap.size + 1, 5, none⟩)
      | 8 => .slice al xl.length cl
      | 9 => .int .i64 C1
      | 10 => .agg #[.string n2, .slice a2 m2 c2, .slice a3 m3 c3]
      | 11 => .int .i64 C2
      | 12 => .int .i64 C1
      | 13 => undef
      | 14 => .int .i64 C2
      | _ => undef) [(13, (fun v => ∃ u, (Keep (fun b => b = bm ∨ b = bu) w2.drew u ∧ Hsx u bh bm bu P1) ∧ v = u.setRow (w.heap.size + 2) #[.string n2, .slice a2 m2 c2, .slice a3 m3 c3])), (9, (fun v => Keep (fun b => b = bm ∨ b = bu) w2.drew v ∧ Hsx v bh bm bu P1))] (by kernel_rfl) (by kernel_rfl) (by kernel_rfl) ?_ ?_
    · refine ⟨?_, ?_, ?_, ?_, ?_, ?_, ?_, ?_, ?_, ?_, ?_, ?_, ?_, ?_, ?_, trivial⟩
      · refine Stg.owes_pure rfl (by kernel_rfl) fun ρ L wo hs' hc' => ?_
        have h0 : ρ (.tmp 0) = .pointer (some ⟨bh, 0, none⟩) := hs'.old' 0 (by kernel_rfl)
        exact Any.ok_move ⟨h0, rfl⟩
      · refine Stg.owes_pure rfl (by kernel_rfl) fun ρ L wo hs' hc' => ?_
        have h5 : ρ (.tmp 5) = .pointer (some ⟨w.heap.size + 1, 0, none⟩) := hs'.old' 5 (by kernel_rfl)
        go_simp
        try exact ⟨rfl, rfl⟩
      · refine Stg.owes_pure rfl (by kernel_rfl) fun ρ L wo hs' hc' => ?_
        have h35 : ρ (.tmp 35) = .pointer (some ⟨w.heap.size + 1, 1, none⟩) := hs'.new' 35 1 (by kernel_rfl)
        have hk := Stg.stage_one (C := fun v => Keep (fun b => b = bm ∨ b = bu) w2.drew v) (Stg.stage_not hs'.world (hs'.before 13 (by kernel_rfl))) (Keep.refl _ _) (fun v hv => hv.1)
        obtain ⟨xx0, xx1, xx2, xx3, xx4, xx5, xx6, xx7⟩ := cells8 (keep_blk hk HMP.out HXO.out (by simp))
        obtain ⟨yy0, yy1, yy2⟩ := cells3_blk (keep_blk hk HMP.out HX9.out (by simp))
        have c0 : wo.cell? ⟨w.heap.size + 1, 1, none⟩ = some (.string xn) := xx1
        go_simp
        try exact ⟨rfl, rfl⟩
      · refine Stg.owes_pure rfl (by kernel_rfl) fun ρ L wo hs' hc' => ?_
        have h5 : ρ (.tmp 5) = .pointer (some ⟨w.heap.size + 1, 0, none⟩) := hs'.old' 5 (by kernel_rfl)
        go_simp
        try exact ⟨rfl, rfl⟩
      · refine Stg.owes_pure rfl (by kernel_rfl) fun ρ L wo hs' hc' => ?_
        have h37 : ρ (.tmp 37) = .pointer (some ⟨w.heap.size + 1, 2, none⟩) := hs'.new' 37 3 (by kernel_rfl)
        have hk := Stg.stage_one (C := fun v => Keep (fun b => b = bm ∨ b = bu) w2.drew v) (Stg.stage_not hs'.world (hs'.before 13 (by kernel_rfl))) (Keep.refl _ _) (fun v hv => hv.1)
        obtain ⟨xx0, xx1, xx2, xx3, xx4, xx5, xx6, xx7⟩ := cells8 (keep_blk hk HMP.out HXO.out (by simp))
        obtain ⟨yy0, yy1, yy2⟩ := cells3_blk (keep_blk hk HMP.out HX9.out (by simp))
        have c0 : wo.cell? ⟨w.heap.size + 1, 2, none⟩ = some (.string xb) := xx2
        go_simp
        try exact ⟨rfl, rfl⟩
      · refine Stg.owes_pure rfl (by kernel_rfl) fun ρ L wo hs' hc' => ?_
        have h5 : ρ (.tmp 5) = .pointer (some ⟨w.heap.size + 1, 0, none⟩) := hs'.old' 5 (by kernel_rfl)
        go_simp
        try exact ⟨rfl, rfl⟩
      · refine Stg.owes_pure rfl (by kernel_rfl) fun ρ L wo hs' hc' => ?_
        have h39 : ρ (.tmp 39) = .pointer (some ⟨w.heap.size + 1, 4, none⟩) := hs'.new' 39 5 (by kernel_rfl)
        have hk := Stg.stage_one (C := fun v => Keep (fun b => b = bm ∨ b = bu) w2.drew v) (Stg.stage_not hs'.world (hs'.before 13 (by kernel_rfl))) (Keep.refl _ _) (fun v hv => hv.1)
        obtain ⟨xx0, xx1, xx2, xx3, xx4, xx5, xx6, xx7⟩ := cells8 (keep_blk hk HMP.out HXO.out (by simp))
        obtain ⟨yy0, yy1, yy2⟩ := cells3_blk (keep_blk hk HMP.out HX9.out (by simp))
        have c0 : wo.cell? ⟨w.heap.size + 1, 4, none⟩ = some (.int .i64 xd) := xx4
        go_simp
        try exact ⟨rfl, rfl⟩
      · refine Stg.owes_pure rfl (by kernel_rfl) fun ρ L wo hs' hc' => ?_
        have h5 : ρ (.tmp 5) = .pointer (some ⟨w.heap.size + 1, 0, none⟩) := hs'.old' 5 (by kernel_rfl)
        go_simp
        try exact ⟨rfl, rfl⟩
      · refine Stg.owes_pure rfl (by kernel_rfl) fun ρ L wo hs' hc' => ?_
        have h41 : ρ (.tmp 41) = .pointer (some ⟨w.heap.size + 1, 5, none⟩) := hs'.new' 41 7 (by kernel_rfl)
        have hk := Stg.stage_one (C := fun v => Keep (fun b => b = bm ∨ b = bu) w2.drew v) (Stg.stage_not hs'.world (hs'.before 13 (by kernel_rfl))) (Keep.refl _ _) (fun v hv => hv.1)
        obtain ⟨xx0, xx1, xx2, xx3, xx4, xx5, xx6, xx7⟩ := cells8 (keep_blk hk HMP.out HXO.out (by simp))
        obtain ⟨yy0, yy1, yy2⟩ := cells3_blk (keep_blk hk HMP.out HX9.out (by simp))
        have c0 : wo.cell? ⟨w.heap.size + 1, 5, none⟩ = some (.slice al xl.length cl) := xx5
        go_simp
        try exact ⟨rfl, rfl⟩
      · refine Stg.owes_turn (pre := [(13, (fun v => ∃ u, (Keep (fun b => b = bm ∨ b = bu) w2.drew u ∧ Hsx u bh bm bu P1) ∧ v = u.setRow (w.heap.size + 2) #[.string n2, .slice a2 m2 c2, .slice a3 m3 c3]))]) rfl rfl (by kernel_rfl) fun ρ L wo hs' hc' hw => ?_
        have h34 : ρ (.tmp 34) = .pointer (some ⟨bh, 0, none⟩) := hs'.new' 34 0 (by kernel_rfl)
        have h36 : ρ (.tmp 36) = .string xn := hs'.new' 36 2 (by kernel_rfl)
        have h38 : ρ (.tmp 38) = .string xb := hs'.new' 38 4 (by kernel_rfl)
        have h40 : ρ (.tmp 40) = .int .i64 xd := hs'.new' 40 6 (by kernel_rfl)
        have h42 : ρ (.tmp 42) = .slice al xl.length cl := hs'.new' 42 8 (by kernel_rfl)
        have hf := hs'.func 14
        have e0 : wo = w2.drew := hw
        subst e0
        go_simp
        exact HPR.out.mono fun e w' ⟨he, hk, hh⟩ => ⟨_, he, rfl, hk, hh⟩
      · refine Stg.owes_pure rfl (by kernel_rfl) fun ρ L wo hs' hc' => ?_
        have h9 : ρ (.tmp 9) = .pointer (some ⟨b9, 0, none⟩) := hs'.old' 9 (by kernel_rfl)
        have hk := Stg.stage_one (C := fun v => Keep (fun b => b = bm ∨ b = bu) w2.drew v) (Stg.stage_not hs'.world (hs'.before 13 (by kernel_rfl))) (Keep.refl _ _) (fun v hv => hv.1)
        obtain ⟨xx0, xx1, xx2, xx3, xx4, xx5, xx6, xx7⟩ := cells8 (keep_blk hk HMP.out HXO.out (by simp))
        obtain ⟨yy0, yy1, yy2⟩ := cells3_blk (keep_blk hk HMP.out HX9.out (by simp))
        have c0 : wo.cell? ⟨b9, 0, none⟩ = some (.string n2) := yy0
        have c1 : wo.cell? ⟨b9, 1, none⟩ = some (.slice a2 m2 c2) := yy1
        have c2 : wo.cell? ⟨b9, 2, none⟩ = some (.slice a3 m3 c3) := yy2
        go_simp
        try exact ⟨rfl, rfl⟩
      · refine Stg.owes_pure rfl (by kernel_rfl) fun ρ L wo hs' hc' => ?_
        have h10 : ρ (.tmp 10) = .int .i64 C2 := hs'.old' 10 (by kernel_rfl)
        exact Any.ok_move ⟨h10, rfl⟩
      · refine Stg.owes_pure rfl (by kernel_rfl) fun ρ L wo hs' hc' => ?_
        have h43 : ρ (.tmp 43) = .int .i64 C1 := hs'.new' 43 9 (by kernel_rfl)
        exact Any.ok_assign ⟨h43, rfl⟩
      · refine Stg.owes_turn (pre := []) rfl rfl (by kernel_rfl) fun ρ L wo hs' hc' hw => ?_
        have h7 : ρ (.tmp 7) = .pointer (some ⟨w.heap.size + 2, 0, none⟩) := hs'.old' 7 (by kernel_rfl)
        have h44 : ρ (.tmp 44) = .agg #[.string n2, .slice a2 m2 c2, .slice a3 m3 c3] := hs'.new' 44 10 (by kernel_rfl)
        have hr := Stg.stage_head hw (hs'.behind 9 (by kernel_rfl))
        exact Stg.ok_store_row h7 h44 (keep_blk hr.1 HMP.out HXR.out (by simp)) (by kernel_rfl) rfl house_one ⟨rfl, wo, hr, rfl⟩
      · refine Stg.owes_pure rfl (by kernel_rfl) fun ρ L wo hs' hc' => ?_
        have h45 : ρ (.tmp 45) = .int .i64 C2 := hs'.new' 45 11 (by kernel_rfl)
        exact Any.ok_assign ⟨h45, rfl⟩
    intro L w9 hL hst
    obtain ⟨u, ⟨hk, hh⟩, rfl⟩ := Stg.stage_head hst (hL 13 (by decide))
    have HKU := Lib.hid hk
    have HHU := Lib.hid hh
    have HXU := Lib.hid (keep_blk hk HMP.out HXR.out (by simp))
    clear hk hh hst hL
    simp only [Any.putAll]
    go_frame
    go_wp2_with fail
    ((try simp only [Exit.inBlock, Exit.then]); refine bodyPost_ret (results_tmp_row_tmp doRes _ _ (w.heap.size + 2) _ #[.string n2, .slice a2 m2 c2, .slice a3 m3 c3] (0, 0) _ (.int .i64 C1) (.int .i64 C2) rfl rfl rfl (setRow_at HXU.out) Tryz.underlying29 rfl (by kernel_rfl)) rfl ?_)
    exact HEND.out _ HKU.out HHU.out HXU.out
  by_cases hk2 : xk = 2
  · have t1 : (xk == 1) = false := by simp [hk1]
    have t2 : (xk == 2) = true := by simp [hk2]
    have EC1 : opC hp ⟨xk, xn, xb, xt, xd, xl, xs, npSnd xp⟩ = passC hp xn xb xt := by rw [opC, if_neg hk1, if_pos hk2]
    have EC2 : opC hr ⟨xk, xn, xb, xt, xd, xl, xs, npSnd xp⟩ = passC hr xn xb xt := by rw [opC, if_neg hk1, if_pos hk2]
    have EH1 : opH hp ⟨xk, xn, xb, xt, xd, xl, xs, npSnd xp⟩ = passH hp xn xb xt := by rw [opH, if_neg hk1, if_pos hk2]
    have EH2 : opH hr ⟨xk, xn, xb, xt, xd, xl, xs, npSnd xp⟩ = passH hr xn xb xt := by rw [opH, if_neg hk1, if_pos hk2]
    rw [EH2] at HNZ
    rw [EC1, EC2, EH1, EH2]
    have HRF : Hid (Calls Tryz.prog 54 #[.agg #[.string nx, .slice ax mx cx, .slice ay my cy], .string xn, .string xb, .string xt] W0 (HouseP W0 (passH hr xn xb xt) (passC hr xn xb xt))) := Lib.hid (by
      obtain ⟨h1, h2, h3, h4⟩ := HLE.out
      have hfit := HFI.out
      exact refPass_any _ xn xb xt W0 HR0.out hfit.to' (by omega))
    have HPQ : Hid (∀ w2 : World, Below W0.heap.size W0 w2 → Hsx w2 bh bm bu hp → Calls Tryz.prog 55 #[.pointer (some ⟨bh, 0, none⟩), .string xn, .string xb, .string xt] w2 (HsP w2 bh bm bu (passH hp xn xb xt) (passC hp xn xb xt))) := Lib.hid (fun w2 hb HH2 => by
      obtain ⟨h1, h2, h3, h4⟩ := HLE.out
      exact passH_any xn xb xt w2 HH2 HOK.out.1)
    generalize passH hp xn xb xt = P1 at *
    generalize passH hr xn xb xt = P2 at *
    generalize passC hp xn xb xt = C1 at *
    generalize passC hr xn xb xt = C2 at *
    clear EC1 EC2 EH1 EH2 hk1 hk2 HR0 HFI HSM HLE HOK HAL0 HAN0 HAP0 HXX0
    subst hW0
    go_enter Tryz.func19, Tryz.ntmps19
    go_wp2_with (first
      | ((with_reducible refine (HRF.out).mono ?_); rintro e w1 ⟨hb1, y, rfl, hr1⟩; obtain ⟨a2, m2, c2, a3, m3, c3, ey⟩ := hr1.shape; subst ey; have HR1 := Lib.hid hr1; have HB1 := Lib.hid hb1; have HXO1 := Lib.hid (blk hb1 (lt_blk HXO0.out) HXO0.out); obtain ⟨x0, x1, x2, x3, x4, x5, x6, x7⟩ := cells8 HXO1.out; clear hb1 hr1)
      | fail)
    clear x0 x1 x2 x3 x4 x5 x6 x7
    obtain ⟨n2, hn2⟩ : ∃ n, n = P2.name := ⟨_, rfl⟩
    rw [← hn2] at HR1 ⊢
    have hbq := one_below w1 (.cells #[.string n2, .slice a2 m2 c2, .slice a3 m3 c3] 29)
    have hx9 := heap_alloc_new w1 (.cells #[.string n2, .slice a2 m2 c2, .slice a3 m3 c3] 29)
    obtain ⟨w2, hw2⟩ : ∃ W, W = w1.alloc (.cells #[.string n2, .slice a2 m2 c2, .slice a3 m3 c3] 29) := ⟨_, rfl⟩
    obtain ⟨b9, hb9⟩ : ∃ b, b = w1.heap.size := ⟨_, rfl⟩
    rw [← hw2] at hbq hx9 ⊢
    have hbd : Below w2.heap.size w2 w2.drew := (Below.refl _ _).drew
    have hbx : Below w1.heap.size w1 w2.drew := hbq.trans (hbd.mono hbq.size)
    have hbv := HB1.out.trans (hbx.mono HB1.out.size)
    have HBW := Lib.hid (HB0.out.trans (hbv.mono HB0.out.size))
    have HXO := Lib.hid (blk hbv (lt_blk HXO0.out) HXO0.out)
    have HXR := Lib.hid (blk hbv (lt_blk HXR0.out) HXR0.out)
    have hx9' := blk hbd (lt_blk hx9) hx9
    rw [← hb9] at hx9' ⊢
    have HX9 := Lib.hid hx9'
    have HH2 := Lib.hid (HH0.out.below hbv)
    have HR2 := Lib.hid (HR1.out.below hbx)
    have HMP := Lib.hid HH2.out.maps
    have HPR := Lib.hid (HPQ.out w2.drew hbv HH2.out)
    have HEND : Hid (∀ u : World, Keep (fun b => b = bm ∨ b = bu) w2.drew u → Hsx u bh bm bu P1 → u.heap[w.heap.size + 2]? = some (.cells #[.string ⟨#[]⟩, .slice none 0 0, .slice none 0 0] 29 (0, 0)) → DoP w bh bm bu P1 P2 C1 C2 (.returned (.tuple #[.int .i64 C1, .agg #[.string n2, .slice a2 m2 c2, .slice a3 m3 c3], .int .i64 C2])) (u.setRow (w.heap.size + 2) #[.string n2, .slice a2 m2 c2, .slice a3 m3 c3])) := Lib.hid (fun u hk hh hx =>
      ⟨_, rfl, ((Keep.of_below (F := fun b => b = bm ∨ b = bu) HBW.out).trans hk fun _ _ e => e).trans (setRow_keep _ _ _) (fun b hb e => absurd hb (by omega)), hh.boxed hx _, (HR2.out.keepM hk HMP.out).boxed hx (.inr HNZ.out)⟩)
    clear hbq hx9 hw2 hb9 hbd hbx hbv hx9' hn2 HB1 HR1 HXO1 HB0 HXO0 HXR0 HH0 HPQ HRF HNZ
    refine Stg.region_lit (fun
      | 0 => .pointer (some ⟨bh, 0, none⟩)
      | 1 => .pointer (some ⟨w.heap.size + 1, 1, none⟩)
      | 2 => .string xn
      | 3 => .pointer (some ⟨w.heap.size + 1, 2, none⟩)
      | 4 => .string xb
      | 5 => .pointer (some ⟨w.heap.size + 1, 3, none⟩)
      | 6 => .string xt
      | 7 => .int .i64 C1
      | 8 => .agg #[.string n2, .slice a2 m2 c2, .slice a3 m3 c3]
      | 9 => .int .i64 C2
      | 10 => .int .i64 C1
      | 11 => undef
      | 12 => .int .i64 C2
      | _ => undef) [(11, (fun v => ∃ u, (Keep (fun b => b = bm ∨ b = bu) w2.drew u ∧ Hsx u bh bm bu P1) ∧ v = u.setRow (w.heap.size + 2) #[.string n2, .slice a2 m2 c2, .slice a3 m3 c3])), (7, (fun v => Keep (fun b => b = bm ∨ b = bu) w2.drew v ∧ Hsx v bh bm bu P1))] (by kernel_rfl) (by kernel_rfl) (by kernel_rfl) ?_ ?_
    · refine ⟨?_, ?_, ?_, ?_, ?_, ?_, ?_, ?_, ?_, ?_, ?_, ?_, ?_, trivial⟩
      · refine Stg.owes_pure rfl (by kernel_rfl) fun ρ L wo hs' hc' => ?_
        have h0 : ρ (.tmp 0) = .pointer (some ⟨bh, 0, none⟩) := hs'.old' 0 (by kernel_rfl)
        exact Any.ok_move ⟨h0, rfl⟩
      · refine Stg.owes_pure rfl (by kernel_rfl) fun ρ L wo hs' hc' => ?_
        have h5 : ρ (.tmp 5) = .pointer (some ⟨w.heap.size + 1, 0, none⟩) := hs'.old' 5 (by kernel_rfl)
        go_simp
        try exact ⟨rfl, rfl⟩
      · refine Stg.owes_pure rfl (by kernel_rfl) fun ρ L wo hs' hc' => ?_
        have h60 : ρ (.tmp 60) = .pointer (some ⟨w.heap.size + 1, 1, none⟩) := hs'.new' 60 1 (by kernel_rfl)
        have hk := Stg.stage_one (C := fun v => Keep (fun b => b = bm ∨ b = bu) w2.drew v) (Stg.stage_not hs'.world (hs'.before 11 (by kernel_rfl))) (Keep.refl _ _) (fun v hv => hv.1)
        obtain ⟨xx0, xx1, xx2, xx3, xx4, xx5, xx6, xx7⟩ := cells8 (keep_blk hk HMP.out HXO.out (by simp))
        obtain ⟨yy0, yy1, yy2⟩ := cells3_blk (keep_blk hk HMP.out HX9.out (by simp))
        have c0 : wo.cell? ⟨w.heap.size + 1, 1, none⟩ = some (.string xn) := xx1
        go_simp
        try exact ⟨rfl, rfl⟩
      · refine Stg.owes_pure rfl (by kernel_rfl) fun ρ L wo hs' hc' => ?_
        have h5 : ρ (.tmp 5) = .pointer (some ⟨w.heap.size + 1, 0, none⟩) := hs'.old' 5 (by kernel_rfl)
        go_simp
        try exact ⟨rfl, rfl⟩
      · refine Stg.owes_pure rfl (by kernel_rfl) fun ρ L wo hs' hc' => ?_
        have h62 : ρ (.tmp 62) = .pointer (some ⟨w.heap.size + 1, 2, none⟩) := hs'.new' 62 3 (by kernel_rfl)
        have hk := Stg.stage_one (C := fun v => Keep (fun b => b = bm ∨ b = bu) w2.drew v) (Stg.stage_not hs'.world (hs'.before 11 (by kernel_rfl))) (Keep.refl _ _) (fun v hv => hv.1)
        obtain ⟨xx0, xx1, xx2, xx3, xx4, xx5, xx6, xx7⟩ := cells8 (keep_blk hk HMP.out HXO.out (by simp))
        obtain ⟨yy0, yy1, yy2⟩ := cells3_blk (keep_blk hk HMP.out HX9.out (by simp))
        have c0 : wo.cell? ⟨w.heap.size + 1, 2, none⟩ = some (.string xb) := xx2
        go_simp
        try exact ⟨rfl, rfl⟩
      · refine Stg.owes_pure rfl (by kernel_rfl) fun ρ L wo hs' hc' => ?_
        have h5 : ρ (.tmp 5) = .pointer (some ⟨w.heap.size + 1, 0, none⟩) := hs'.old' 5 (by kernel_rfl)
        go_simp
        try exact ⟨rfl, rfl⟩
      · refine Stg.owes_pure rfl (by kernel_rfl) fun ρ L wo hs' hc' => ?_
        have h64 : ρ (.tmp 64) = .pointer (some ⟨w.heap.size + 1, 3, none⟩) := hs'.new' 64 5 (by kernel_rfl)
        have hk := Stg.stage_one (C := fun v => Keep (fun b => b = bm ∨ b = bu) w2.drew v) (Stg.stage_not hs'.world (hs'.before 11 (by kernel_rfl))) (Keep.refl _ _) (fun v hv => hv.1)
        obtain ⟨xx0, xx1, xx2, xx3, xx4, xx5, xx6, xx7⟩ := cells8 (keep_blk hk HMP.out HXO.out (by simp))
        obtain ⟨yy0, yy1, yy2⟩ := cells3_blk (keep_blk hk HMP.out HX9.out (by simp))
        have c0 : wo.cell? ⟨w.heap.size + 1, 3, none⟩ = some (.string xt) := xx3
        go_simp
        try exact ⟨rfl, rfl⟩
      · refine Stg.owes_turn (pre := [(11, (fun v => ∃ u, (Keep (fun b => b = bm ∨ b = bu) w2.drew u ∧ Hsx u bh bm bu P1) ∧ v = u.setRow (w.heap.size + 2) #[.string n2, .slice a2 m2 c2, .slice a3 m3 c3]))]) rfl rfl (by kernel_rfl) fun ρ L wo hs' hc' hw => ?_
        have h59 : ρ (.tmp 59) = .pointer (some ⟨bh, 0, none⟩) := hs'.new' 59 0 (by kernel_rfl)
        have h61 : ρ (.tmp 61) = .string xn := hs'.new' 61 2 (by kernel_rfl)
        have h63 : ρ (.tmp 63) = .string xb := hs'.new' 63 4 (by kernel_rfl)
        have h65 : ρ (.tmp 65) = .string xt := hs'.new' 65 6 (by kernel_rfl)
        have hf := hs'.func 55
        have e0 : wo = w2.drew := hw
        subst e0
        go_simp
        exact HPR.out.mono fun e w' ⟨he, hk, hh⟩ => ⟨_, he, rfl, hk, hh⟩
      · refine Stg.owes_pure rfl (by kernel_rfl) fun ρ L wo hs' hc' => ?_
        have h11 : ρ (.tmp 11) = .pointer (some ⟨b9, 0, none⟩) := hs'.old' 11 (by kernel_rfl)
        have hk := Stg.stage_one (C := fun v => Keep (fun b => b = bm ∨ b = bu) w2.drew v) (Stg.stage_not hs'.world (hs'.before 11 (by kernel_rfl))) (Keep.refl _ _) (fun v hv => hv.1)
        obtain ⟨xx0, xx1, xx2, xx3, xx4, xx5, xx6, xx7⟩ := cells8 (keep_blk hk HMP.out HXO.out (by simp))
        obtain ⟨yy0, yy1, yy2⟩ := cells3_blk (keep_blk hk HMP.out HX9.out (by simp))
        have c0 : wo.cell? ⟨b9, 0, none⟩ = some (.string n2) := yy0
        have c1 : wo.cell? ⟨b9, 1, none⟩ = some (.slice a2 m2 c2) := yy1
        have c2 : wo.cell? ⟨b9, 2, none⟩ = some (.slice a3 m3 c3) := yy2
        go_simp
        try exact ⟨rfl, rfl⟩
      · refine Stg.owes_pure rfl (by kernel_rfl) fun ρ L wo hs' hc' => ?_
        have h12 : ρ (.tmp 12) = .int .i64 C2 := hs'.old' 12 (by kernel_rfl)
        exact Any.ok_move ⟨h12, rfl⟩
      · refine Stg.owes_pure rfl (by kernel_rfl) fun ρ L wo hs' hc' => ?_
        have h66 : ρ (.tmp 66) = .int .i64 C1 := hs'.new' 66 7 (by kernel_rfl)
        exact Any.ok_assign ⟨h66, rfl⟩
      · refine Stg.owes_turn (pre := []) rfl rfl (by kernel_rfl) fun ρ L wo hs' hc' hw => ?_
        have h7 : ρ (.tmp 7) = .pointer (some ⟨w.heap.size + 2, 0, none⟩) := hs'.old' 7 (by kernel_rfl)
        have h67 : ρ (.tmp 67) = .agg #[.string n2, .slice a2 m2 c2, .slice a3 m3 c3] := hs'.new' 67 8 (by kernel_rfl)
        have hr := Stg.stage_head hw (hs'.behind 7 (by kernel_rfl))
        exact Stg.ok_store_row h7 h67 (keep_blk hr.1 HMP.out HXR.out (by simp)) (by kernel_rfl) rfl house_one ⟨rfl, wo, hr, rfl⟩
      · refine Stg.owes_pure rfl (by kernel_rfl) fun ρ L wo hs' hc' => ?_
        have h68 : ρ (.tmp 68) = .int .i64 C2 := hs'.new' 68 9 (by kernel_rfl)
        exact Any.ok_assign ⟨h68, rfl⟩
    intro L w9 hL hst
    obtain ⟨u, ⟨hk, hh⟩, rfl⟩ := Stg.stage_head hst (hL 11 (by decide))
    have HKU := Lib.hid hk
    have HHU := Lib.hid hh
    have HXU := Lib.hid (keep_blk hk HMP.out HXR.out (by simp))
    clear hk hh hst hL
    simp only [Any.putAll]
    go_frame
    go_wp2_with fail
    ((try simp only [Exit.inBlock, Exit.then]); refine bodyPost_ret (results_tmp_row_tmp doRes _ _ (w.heap.size + 2) _ #[.string n2, .slice a2 m2 c2, .slice a3 m3 c3] (0, 0) _ (.int .i64 C1) (.int .i64 C2) rfl rfl rfl (setRow_at HXU.out) Tryz.underlying29 rfl (by kernel_rfl)) rfl ?_)
    exact HEND.out _ HKU.out HHU.out HXU.out
  by_cases hk3 : xk = 3
  · have t1 : (xk == 1) = false := by simp [hk1]
    have t2 : (xk == 2) = false := by simp [hk2]
    have t3 : (xk == 3) = true := by simp [hk3]
    have EC1 : opC hp ⟨xk, xn, xb, xt, xd, xl, xs, npSnd xp⟩ = partC hp xn xb xs (npSnd xp) := by rw [opC, if_neg hk1, if_neg hk2, if_pos hk3]
    have EC2 : opC hr ⟨xk, xn, xb, xt, xd, xl, xs, npSnd xp⟩ = partC hr xn xb xs (npSnd xp) := by rw [opC, if_neg hk1, if_neg hk2, if_pos hk3]
    have EH1 : opH hp ⟨xk, xn, xb, xt, xd, xl, xs, npSnd xp⟩ = partH hp xn xb xs (npSnd xp) := by rw [opH, if_neg hk1, if_neg hk2, if_pos hk3]
    have EH2 : opH hr ⟨xk, xn, xb, xt, xd, xl, xs, npSnd xp⟩ = partH hr xn xb xs (npSnd xp) := by rw [opH, if_neg hk1, if_neg hk2, if_pos hk3]
    rw [EH2] at HNZ
    rw [EC1, EC2, EH1, EH2]
    have HRF : Hid (Calls Tryz.prog 56 #[.agg #[.string nx, .slice ax mx cx, .slice ay my cy], .string xn, .string xb, .slice an xs.length cn, .slice ap xp.length cp] W0 (HouseP W0 (partH hr xn xb xs (npSnd xp)) (partC hr xn xb xs (npSnd xp)))) := Lib.hid (by
      obtain ⟨h1, h2, h3, h4⟩ := HLE.out
      have hfit := HFI.out
      exact refPart_any _ xn xb xs xp _ _ W0 HR0.out HOK.out.2 HAN0.out HAP0.out hfit.nums hfit.parts (by omega) (by omega) (by have := HSM.out.parts; simp only at this; omega) (fun q hq => by have := HSM.out.each q hq; omega))
    have HPQ : Hid (∀ w2 : World, Below W0.heap.size W0 w2 → Hsx w2 bh bm bu hp → Calls Tryz.prog 15 #[.pointer (some ⟨bh, 0, none⟩), .string xn, .string xb, .slice an xs.length cn, .slice ap xp.length cp] w2 (HsP w2 bh bm bu (partH hp xn xb xs (npSnd xp)) (partC hp xn xb xs (npSnd xp)))) := Lib.hid (fun w2 hb HH2 => by
      obtain ⟨h1, h2, h3, h4⟩ := HLE.out
      exact partH_any xn xb xs xp _ _ w2 HH2 HOK.out.1 (HAN0.out.below hb (Nat.le_refl _)) (HAP0.out.below hb) (by have := HSM.out.nums; simp only at this; omega) (by omega))
    generalize partH hp xn xb xs (npSnd xp) = P1 at *
    generalize partH hr xn xb xs (npSnd xp) = P2 at *
    generalize partC hp xn xb xs (npSnd xp) = C1 at *
    generalize partC hr xn xb xs (npSnd xp) = C2 at *
    clear EC1 EC2 EH1 EH2 hk1 hk2 hk3 HR0 HFI HSM HLE HOK HAL0 HAN0 HAP0 HXX0
    subst hW0
    go_enter Tryz.func19, Tryz.ntmps19
    go_wp2_with (first
      | ((with_reducible refine (HRF.out).mono ?_); rintro e w1 ⟨hb1, y, rfl, hr1⟩; obtain ⟨a2, m2, c2, a3, m3, c3, ey⟩ := hr1.shape; subst ey; have HR1 := Lib.hid hr1; have HB1 := Lib.hid hb1; have HXO1 := Lib.hid (blk hb1 (lt_blk HXO0.out) HXO0.out); obtain ⟨x0, x1, x2, x3, x4, x5, x6, x7⟩ := cells8 HXO1.out; clear hb1 hr1)
      | fail)
    clear x0 x1 x2 x3 x4 x5 x6 x7
    obtain ⟨n2, hn2⟩ : ∃ n, n = P2.name := ⟨_, rfl⟩
    rw [← hn2] at HR1 ⊢
    have hbq := one_below w1 (.cells #[.string n2, .slice a2 m2 c2, .slice a3 m3 c3] 29)
    have hx9 := heap_alloc_new w1 (.cells #[.string n2, .slice a2 m2 c2, .slice a3 m3 c3] 29)
    obtain ⟨w2, hw2⟩ : ∃ W, W = w1.alloc (.cells #[.string n2, .slice a2 m2 c2, .slice a3 m3 c3] 29) := ⟨_, rfl⟩
    obtain ⟨b9, hb9⟩ : ∃ b, b = w1.heap.size := ⟨_, rfl⟩
    rw [← hw2] at hbq hx9 ⊢
    have hbd : Below w2.heap.size w2 w2.drew := (Below.refl _ _).drew
    have hbx : Below w1.heap.size w1 w2.drew := hbq.trans (hbd.mono hbq.size)
    have hbv := HB1.out.trans (hbx.mono HB1.out.size)
    have HBW := Lib.hid (HB0.out.trans (hbv.mono HB0.out.size))
    have HXO := Lib.hid (blk hbv (lt_blk HXO0.out) HXO0.out)
    have HXR := Lib.hid (blk hbv (lt_blk HXR0.out) HXR0.out)
    have hx9' := blk hbd (lt_blk hx9) hx9
    rw [← hb9] at hx9' ⊢
    have HX9 := Lib.hid hx9'
    have HH2 := Lib.hid (HH0.out.below hbv)
    have HR2 := Lib.hid (HR1.out.below hbx)
    have HMP := Lib.hid HH2.out.maps
    have HPR := Lib.hid (HPQ.out w2.drew hbv HH2.out)
    have HEND : Hid (∀ u : World, Keep (fun b => b = bm ∨ b = bu) w2.drew u → Hsx u bh bm bu P1 → u.heap[w.heap.size + 2]? = some (.cells #[.string ⟨#[]⟩, .slice none 0 0, .slice none 0 0] 29 (0, 0)) → DoP w bh bm bu P1 P2 C1 C2 (.returned (.tuple #[.int .i64 C1, .agg #[.string n2, .slice a2 m2 c2, .slice a3 m3 c3], .int .i64 C2])) (u.setRow (w.heap.size + 2) #[.string n2, .slice a2 m2 c2, .slice a3 m3 c3])) := Lib.hid (fun u hk hh hx =>
      ⟨_, rfl, ((Keep.of_below (F := fun b => b = bm ∨ b = bu) HBW.out).trans hk fun _ _ e => e).trans (setRow_keep _ _ _) (fun b hb e => absurd hb (by omega)), hh.boxed hx _, (HR2.out.keepM hk HMP.out).boxed hx (.inr HNZ.out)⟩)
    clear hbq hx9 hw2 hb9 hbd hbx hbv hx9' hn2 HB1 HR1 HXO1 HB0 HXO0 HXR0 HH0 HPQ HRF HNZ
    refine Stg.region_lit (fun
      | 0 => .pointer (some ⟨bh, 0, none⟩)
      | 1 => .pointer (some ⟨w.heap.size + 1, 1, none⟩)
      | 2 => .string xn
      | 3 => .pointer (some ⟨w.heap.size + 1, 2, none⟩)
      | 4 => .string xb
      | 5 => .pointer (some ⟨w.heap.size + 1, 6, none⟩)
      | 6 => .slice an xs.length cn
      | 7 => .pointer (some ⟨w.heap.size + 1, 7, none⟩)
      | 8 => .slice ap xp.length cp
      | 9 => .int .i64 C1
      | 10 => .agg #[.string n2, .slice a2 m2 c2, .slice a3 m3 c3]
      | 11 => .int .i64 C2
      | 12 => .int .i64 C1
      | 13 => undef
      | 14 => .int .i64 C2
      | _ => undef) [(13, (fun v => ∃ u, (Keep (fun b => b = bm ∨ b = bu) w2.drew u ∧ Hsx u bh bm bu P1) ∧ v = u.setRow (w.heap.size + 2) #[.string n2, .slice a2 m2 c2, .slice a3 m3 c3])), (9, (fun v => Keep (fun b => b = bm ∨ b = bu) w2.drew v ∧ Hsx v bh bm bu P1))] (by kernel_rfl) (by kernel_rfl) (by kernel_rfl) ?_ ?_
    · refine ⟨?_, ?_, ?_, ?_, ?_, ?_, ?_, ?_, ?_, ?_, ?_, ?_, ?_, ?_, ?_, trivial⟩
      · refine Stg.owes_pure rfl (by kernel_rfl) fun ρ L wo hs' hc' => ?_
        have h0 : ρ (.tmp 0) = .pointer (some ⟨bh, 0, none⟩) := hs'.old' 0 (by kernel_rfl)
        exact Any.ok_move ⟨h0, rfl⟩
      · refine Stg.owes_pure rfl (by kernel_rfl) fun ρ L wo hs' hc' => ?_
        have h5 : ρ (.tmp 5) = .pointer (some ⟨w.heap.size + 1, 0, none⟩) := hs'.old' 5 (by kernel_rfl)
        go_simp
        try exact ⟨rfl, rfl⟩
      · refine Stg.owes_pure rfl (by kernel_rfl) fun ρ L wo hs' hc' => ?_
        have h85 : ρ (.tmp 85) = .pointer (some ⟨w.heap.size + 1, 1, none⟩) := hs'.new' 85 1 (by kernel_rfl)
        have hk := Stg.stage_one (C := fun v => Keep (fun b => b = bm ∨ b = bu) w2.drew v) (Stg.stage_not hs'.world (hs'.before 13 (by kernel_rfl))) (Keep.refl _ _) (fun v hv => hv.1)
        obtain ⟨xx0, xx1, xx2, xx3, xx4, xx5, xx6, xx7⟩ := cells8 (keep_blk hk HMP.out HXO.out (by simp))
        obtain ⟨yy0, yy1, yy2⟩ := cells3_blk (keep_blk hk HMP.out HX9.out (by simp))
        have c0 : wo.cell? ⟨w.heap.size + 1, 1, none⟩ = some (.string xn) := xx1
        go_simp
        try exact ⟨rfl, rfl⟩
      · refine Stg.owes_pure rfl (by kernel_rfl) fun ρ L wo hs' hc' => ?_
        have h5 : ρ (.tmp 5) = .pointer (some ⟨w.heap.size + 1, 0, none⟩) := hs'.old' 5 (by kernel_rfl)
        go_simp
        try exact ⟨rfl, rfl⟩
      · refine Stg.owes_pure rfl (by kernel_rfl) fun ρ L wo hs' hc' => ?_
        have h87 : ρ (.tmp 87) = .pointer (some ⟨w.heap.size + 1, 2, none⟩) := hs'.new' 87 3 (by kernel_rfl)
        have hk := Stg.stage_one (C := fun v => Keep (fun b => b = bm ∨ b = bu) w2.drew v) (Stg.stage_not hs'.world (hs'.before 13 (by kernel_rfl))) (Keep.refl _ _) (fun v hv => hv.1)
        obtain ⟨xx0, xx1, xx2, xx3, xx4, xx5, xx6, xx7⟩ := cells8 (keep_blk hk HMP.out HXO.out (by simp))
        obtain ⟨yy0, yy1, yy2⟩ := cells3_blk (keep_blk hk HMP.out HX9.out (by simp))
        have c0 : wo.cell? ⟨w.heap.size + 1, 2, none⟩ = some (.string xb) := xx2
        go_simp
        try exact ⟨rfl, rfl⟩
      · refine Stg.owes_pure rfl (by kernel_rfl) fun ρ L wo hs' hc' => ?_
        have h5 : ρ (.tmp 5) = .pointer (some ⟨w.heap.size + 1, 0, none⟩) := hs'.old' 5 (by kernel_rfl)
        go_simp
        try exact ⟨rfl, rfl⟩
      · refine Stg.owes_pure rfl (by kernel_rfl) fun ρ L wo hs' hc' => ?_
        have h89 : ρ (.tmp 89) = .pointer (some ⟨w.heap.size + 1, 6, none⟩) := hs'.new' 89 5 (by kernel_rfl)
        have hk := Stg.stage_one (C := fun v => Keep (fun b => b = bm ∨ b = bu) w2.drew v) (Stg.stage_not hs'.world (hs'.before 13 (by kernel_rfl))) (Keep.refl _ _) (fun v hv => hv.1)
        obtain ⟨xx0, xx1, xx2, xx3, xx4, xx5, xx6, xx7⟩ := cells8 (keep_blk hk HMP.out HXO.out (by simp))
        obtain ⟨yy0, yy1, yy2⟩ := cells3_blk (keep_blk hk HMP.out HX9.out (by simp))
        have c0 : wo.cell? ⟨w.heap.size + 1, 6, none⟩ = some (.slice an xs.length cn) := xx6
        go_simp
        try exact ⟨rfl, rfl⟩
      · refine Stg.owes_pure rfl (by kernel_rfl) fun ρ L wo hs' hc' => ?_
        have h5 : ρ (.tmp 5) = .pointer (some ⟨w.heap.size + 1, 0, none⟩) := hs'.old' 5 (by kernel_rfl)
        go_simp
        try exact ⟨rfl, rfl⟩
      · refine Stg.owes_pure rfl (by kernel_rfl) fun ρ L wo hs' hc' => ?_
        have h91 : ρ (.tmp 91) = .pointer (some ⟨w.heap.size + 1, 7, none⟩) := hs'.new' 91 7 (by kernel_rfl)
        have hk := Stg.stage_one (C := fun v => Keep (fun b => b = bm ∨ b = bu) w2.drew v) (Stg.stage_not hs'.world (hs'.before 13 (by kernel_rfl))) (Keep.refl _ _) (fun v hv => hv.1)
        obtain ⟨xx0, xx1, xx2, xx3, xx4, xx5, xx6, xx7⟩ := cells8 (keep_blk hk HMP.out HXO.out (by simp))
        obtain ⟨yy0, yy1, yy2⟩ := cells3_blk (keep_blk hk HMP.out HX9.out (by simp))
        have c0 : wo.cell? ⟨w.heap.size + 1, 7, none⟩ = some (.slice ap xp.length cp) := xx7
        go_simp
        try exact ⟨rfl, rfl⟩
      · refine Stg.owes_turn (pre := [(13, (fun v => ∃ u, (Keep (fun b => b = bm ∨ b = bu) w2.drew u ∧ Hsx u bh bm bu P1) ∧ v = u.setRow (w.heap.size + 2) #[.string n2, .slice a2 m2 c2, .slice a3 m3 c3]))]) rfl rfl (by kernel_rfl) fun ρ L wo hs' hc' hw => ?_
        have h84 : ρ (.tmp 84) = .pointer (some ⟨bh, 0, none⟩) := hs'.new' 84 0 (by kernel_rfl)
        have h86 : ρ (.tmp 86) = .string xn := hs'.new' 86 2 (by kernel_rfl)
        have h88 : ρ (.tmp 88) = .string xb := hs'.new' 88 4 (by kernel_rfl)
        have h90 : ρ (.tmp 90) = .slice an xs.length cn := hs'.new' 90 6 (by kernel_rfl)
        have h92 : ρ (.tmp 92) = .slice ap xp.length cp := hs'.new' 92 8 (by kernel_rfl)
        have hf := hs'.func 15
        have e0 : wo = w2.drew := hw
        subst e0
        go_simp
        exact HPR.out.mono fun e w' ⟨he, hk, hh⟩ => ⟨_, he, rfl, hk, hh⟩
      · refine Stg.owes_pure rfl (by kernel_rfl) fun ρ L wo hs' hc' => ?_
        have h13 : ρ (.tmp 13) = .pointer (some ⟨b9, 0, none⟩) := hs'.old' 13 (by kernel_rfl)
        have hk := Stg.stage_one (C := fun v => Keep (fun b => b = bm ∨ b = bu) w2.drew v) (Stg.stage_not hs'.world (hs'.before 13 (by kernel_rfl))) (Keep.refl _ _) (fun v hv => hv.1)
        obtain ⟨xx0, xx1, xx2, xx3, xx4, xx5, xx6, xx7⟩ := cells8 (keep_blk hk HMP.out HXO.out (by simp))
        obtain ⟨yy0, yy1, yy2⟩ := cells3_blk (keep_blk hk HMP.out HX9.out (by simp))
        have c0 : wo.cell? ⟨b9, 0, none⟩ = some (.string n2) := yy0
        have c1 : wo.cell? ⟨b9, 1, none⟩ = some (.slice a2 m2 c2) := yy1
        have c2 : wo.cell? ⟨b9, 2, none⟩ = some (.slice a3 m3 c3) := yy2
        go_simp
        try exact ⟨rfl, rfl⟩
      · refine Stg.owes_pure rfl (by kernel_rfl) fun ρ L wo hs' hc' => ?_
        have h14 : ρ (.tmp 14) = .int .i64 C2 := hs'.old' 14 (by kernel_rfl)
        exact Any.ok_move ⟨h14, rfl⟩
      · refine Stg.owes_pure rfl (by kernel_rfl) fun ρ L wo hs' hc' => ?_
        have h93 : ρ (.tmp 93) = .int .i64 C1 := hs'.new' 93 9 (by kernel_rfl)
        exact Any.ok_assign ⟨h93, rfl⟩
      · refine Stg.owes_turn (pre := []) rfl rfl (by kernel_rfl) fun ρ L wo hs' hc' hw => ?_
        have h7 : ρ (.tmp 7) = .pointer (some ⟨w.heap.size + 2, 0, none⟩) := hs'.old' 7 (by kernel_rfl)
        have h94 : ρ (.tmp 94) = .agg #[.string n2, .slice a2 m2 c2, .slice a3 m3 c3] := hs'.new' 94 10 (by kernel_rfl)
        have hr := Stg.stage_head hw (hs'.behind 9 (by kernel_rfl))
        exact Stg.ok_store_row h7 h94 (keep_blk hr.1 HMP.out HXR.out (by simp)) (by kernel_rfl) rfl house_one ⟨rfl, wo, hr, rfl⟩
      · refine Stg.owes_pure rfl (by kernel_rfl) fun ρ L wo hs' hc' => ?_
        have h95 : ρ (.tmp 95) = .int .i64 C2 := hs'.new' 95 11 (by kernel_rfl)
        exact Any.ok_assign ⟨h95, rfl⟩
    intro L w9 hL hst
    obtain ⟨u, ⟨hk, hh⟩, rfl⟩ := Stg.stage_head hst (hL 13 (by decide))
    have HKU := Lib.hid hk
    have HHU := Lib.hid hh
    have HXU := Lib.hid (keep_blk hk HMP.out HXR.out (by simp))
    clear hk hh hst hL
    simp only [Any.putAll]
    go_frame
    go_wp2_with fail
    ((try simp only [Exit.inBlock, Exit.then]); refine bodyPost_ret (results_tmp_row_tmp doRes _ _ (w.heap.size + 2) _ #[.string n2, .slice a2 m2 c2, .slice a3 m3 c3] (0, 0) _ (.int .i64 C1) (.int .i64 C2) rfl rfl rfl (setRow_at HXU.out) Tryz.underlying29 rfl (by kernel_rfl)) rfl ?_)
    exact HEND.out _ HKU.out HHU.out HXU.out
  by_cases hk4 : xk = 4
  · have t1 : (xk == 1) = false := by simp [hk1]
    have t2 : (xk == 2) = false := by simp [hk2]
    have t3 : (xk == 3) = false := by simp [hk3]
    have t4 : (xk == 4) = true := by simp [hk4]
    have EC1 : opC hp ⟨xk, xn, xb, xt, xd, xl, xs, npSnd xp⟩ = outC hp xn xb xl := by rw [opC, if_neg hk1, if_neg hk2, if_neg hk3, if_pos hk4]
    have EC2 : opC hr ⟨xk, xn, xb, xt, xd, xl, xs, npSnd xp⟩ = outC hr xn xb xl := by rw [opC, if_neg hk1, if_neg hk2, if_neg hk3, if_pos hk4]
    have EH1 : opH hp ⟨xk, xn, xb, xt, xd, xl, xs, npSnd xp⟩ = outH hp xn xb xl := by rw [opH, if_neg hk1, if_neg hk2, if_neg hk3, if_pos hk4]
    have EH2 : opH hr ⟨xk, xn, xb, xt, xd, xl, xs, npSnd xp⟩ = outH hr xn xb xl := by rw [opH, if_neg hk1, if_neg hk2, if_neg hk3, if_pos hk4]
    rw [EH2] at HNZ
    rw [EC1, EC2, EH1, EH2]
    have HRF : Hid (Calls Tryz.prog 57 #[.agg #[.string nx, .slice ax mx cx, .slice ay my cy], .string xn, .string xb, .slice al xl.length cl] W0 (HouseP W0 (outH hr xn xb xl) (outC hr xn xb xl))) := Lib.hid (by
      obtain ⟨h1, h2, h3, h4⟩ := HLE.out
      have hfit := HFI.out
      exact refOut_any _ xn xb xl _ W0 HR0.out HOK.out.2 HAL0.out hfit.lots (by omega))
    have HPQ : Hid (∀ w2 : World, Below W0.heap.size W0 w2 → Hsx w2 bh bm bu hp → Calls Tryz.prog 16 #[.pointer (some ⟨bh, 0, none⟩), .string xn, .string xb, .slice al xl.length cl] w2 (HsP w2 bh bm bu (outH hp xn xb xl) (outC hp xn xb xl))) := Lib.hid (fun w2 hb HH2 => by
      obtain ⟨h1, h2, h3, h4⟩ := HLE.out
      exact outH_any xn xb xl _ w2 HH2 HOK.out.1 (HAL0.out.below hb (Nat.le_refl _)))
    generalize outH hp xn xb xl = P1 at *
    generalize outH hr xn xb xl = P2 at *
    generalize outC hp xn xb xl = C1 at *
    generalize outC hr xn xb xl = C2 at *
    clear EC1 EC2 EH1 EH2 hk1 hk2 hk3 hk4 HR0 HFI HSM HLE HOK HAL0 HAN0 HAP0 HXX0
    subst hW0
    go_enter Tryz.func19, Tryz.ntmps19
    go_wp2_with (first
      | ((with_reducible refine (HRF.out).mono ?_); rintro e w1 ⟨hb1, y, rfl, hr1⟩; obtain ⟨a2, m2, c2, a3, m3, c3, ey⟩ := hr1.shape; subst ey; have HR1 := Lib.hid hr1; have HB1 := Lib.hid hb1; have HXO1 := Lib.hid (blk hb1 (lt_blk HXO0.out) HXO0.out); obtain ⟨x0, x1, x2, x3, x4, x5, x6, x7⟩ := cells8 HXO1.out; clear hb1 hr1)
      | fail)
    clear x0 x1 x2 x3 x4 x5 x6 x7
    obtain ⟨n2, hn2⟩ : ∃ n, n = P2.name := ⟨_, rfl⟩
    rw [← hn2] at HR1 ⊢
    have hbq := one_below w1 (.cells #[.string n2, .slice a2 m2 c2, .slice a3 m3 c3] 29)
    have hx9 := heap_alloc_new w1 (.cells #[.string n2, .slice a2 m2 c2, .slice a3 m3 c3] 29)
    obtain ⟨w2, hw2⟩ : ∃ W, W = w1.alloc (.cells #[.string n2, .slice a2 m2 c2, .slice a3 m3 c3] 29) := ⟨_, rfl⟩
    obtain ⟨b9, hb9⟩ : ∃ b, b = w1.heap.size := ⟨_, rfl⟩
    rw [← hw2] at hbq hx9 ⊢
    have hbd : Below w2.heap.size w2 w2.drew := (Below.refl _ _).drew
    have hbx : Below w1.heap.size w1 w2.drew := hbq.trans (hbd.mono hbq.size)
    have hbv := HB1.out.trans (hbx.mono HB1.out.size)
    have HBW := Lib.hid (HB0.out.trans (hbv.mono HB0.out.size))
    have HXO := Lib.hid (blk hbv (lt_blk HXO0.out) HXO0.out)
    have HXR := Lib.hid (blk hbv (lt_blk HXR0.out) HXR0.out)
    have hx9' := blk hbd (lt_blk hx9) hx9
    rw [← hb9] at hx9' ⊢
    have HX9 := Lib.hid hx9'
    have HH2 := Lib.hid (HH0.out.below hbv)
    have HR2 := Lib.hid (HR1.out.below hbx)
    have HMP := Lib.hid HH2.out.maps
    have HPR := Lib.hid (HPQ.out w2.drew hbv HH2.out)
    have HEND : Hid (∀ u : World, Keep (fun b => b = bm ∨ b = bu) w2.drew u → Hsx u bh bm bu P1 → u.heap[w.heap.size + 2]? = some (.cells #[.string ⟨#[]⟩, .slice none 0 0, .slice none 0 0] 29 (0, 0)) → DoP w bh bm bu P1 P2 C1 C2 (.returned (.tuple #[.int .i64 C1, .agg #[.string n2, .slice a2 m2 c2, .slice a3 m3 c3], .int .i64 C2])) (u.setRow (w.heap.size + 2) #[.string n2, .slice a2 m2 c2, .slice a3 m3 c3])) := Lib.hid (fun u hk hh hx =>
      ⟨_, rfl, ((Keep.of_below (F := fun b => b = bm ∨ b = bu) HBW.out).trans hk fun _ _ e => e).trans (setRow_keep _ _ _) (fun b hb e => absurd hb (by omega)), hh.boxed hx _, (HR2.out.keepM hk HMP.out).boxed hx (.inr HNZ.out)⟩)
    clear hbq hx9 hw2 hb9 hbd hbx hbv hx9' hn2 HB1 HR1 HXO1 HB0 HXO0 HXR0 HH0 HPQ HRF HNZ
    refine Stg.region_lit (fun
      | 0 => .pointer (some ⟨bh, 0, none⟩)
      | 1 => .pointer (some ⟨w.heap.size + 1, 1, none⟩)
      | 2 => .string xn
      | 3 => .pointer (some ⟨w.heap.size + 1, 2, none⟩)
      | 4 => .string xb
      | 5 => .pointer (some ⟨w.heap.size + 1, 5, none⟩)
      | 6 => .slice al xl.length cl
      | 7 => .int .i64 C1
      | 8 => .agg #[.string n2, .slice a2 m2 c2, .slice a3 m3 c3]
      | 9 => .int .i64 C2
      | 10 => .int .i64 C1
      | 11 => undef
      | 12 => .int .i64 C2
      | _ => undef) [(11, (fun v => ∃ u, (Keep (fun b => b = bm ∨ b = bu) w2.drew u ∧ Hsx u bh bm bu P1) ∧ v = u.setRow (w.heap.size + 2) #[.string n2, .slice a2 m2 c2, .slice a3 m3 c3])), (7, (fun v => Keep (fun b => b = bm ∨ b = bu) w2.drew v ∧ Hsx v bh bm bu P1))] (by kernel_rfl) (by kernel_rfl) (by kernel_rfl) ?_ ?_
    · refine ⟨?_, ?_, ?_, ?_, ?_, ?_, ?_, ?_, ?_, ?_, ?_, ?_, ?_, trivial⟩
      · refine Stg.owes_pure rfl (by kernel_rfl) fun ρ L wo hs' hc' => ?_
        have h0 : ρ (.tmp 0) = .pointer (some ⟨bh, 0, none⟩) := hs'.old' 0 (by kernel_rfl)
        exact Any.ok_move ⟨h0, rfl⟩
      · refine Stg.owes_pure rfl (by kernel_rfl) fun ρ L wo hs' hc' => ?_
        have h5 : ρ (.tmp 5) = .pointer (some ⟨w.heap.size + 1, 0, none⟩) := hs'.old' 5 (by kernel_rfl)
        go_simp
        try exact ⟨rfl, rfl⟩
      · refine Stg.owes_pure rfl (by kernel_rfl) fun ρ L wo hs' hc' => ?_
        have h110 : ρ (.tmp 110) = .pointer (some ⟨w.heap.size + 1, 1, none⟩) := hs'.new' 110 1 (by kernel_rfl)
        have hk := Stg.stage_one (C := fun v => Keep (fun b => b = bm ∨ b = bu) w2.drew v) (Stg.stage_not hs'.world (hs'.before 11 (by kernel_rfl))) (Keep.refl _ _) (fun v hv => hv.1)
        obtain ⟨xx0, xx1, xx2, xx3, xx4, xx5, xx6, xx7⟩ := cells8 (keep_blk hk HMP.out HXO.out (by simp))
        obtain ⟨yy0, yy1, yy2⟩ := cells3_blk (keep_blk hk HMP.out HX9.out (by simp))
        have c0 : wo.cell? ⟨w.heap.size + 1, 1, none⟩ = some (.string xn) := xx1
        go_simp
        try exact ⟨rfl, rfl⟩
      · refine Stg.owes_pure rfl (by kernel_rfl) fun ρ L wo hs' hc' => ?_
        have h5 : ρ (.tmp 5) = .pointer (some ⟨w.heap.size + 1, 0, none⟩) := hs'.old' 5 (by kernel_rfl)
        go_simp
        try exact ⟨rfl, rfl⟩
      · refine Stg.owes_pure rfl (by kernel_rfl) fun ρ L wo hs' hc' => ?_
        have h112 : ρ (.tmp 112) = .pointer (some ⟨w.heap.size + 1, 2, none⟩) := hs'.new' 112 3 (by kernel_rfl)
        have hk := Stg.stage_one (C := fun v => Keep (fun b => b = bm ∨ b = bu) w2.drew v) (Stg.stage_not hs'.world (hs'.before 11 (by kernel_rfl))) (Keep.refl _ _) (fun v hv => hv.1)
        obtain ⟨xx0, xx1, xx2, xx3, xx4, xx5, xx6, xx7⟩ := cells8 (keep_blk hk HMP.out HXO.out (by simp))
        obtain ⟨yy0, yy1, yy2⟩ := cells3_blk (keep_blk hk HMP.out HX9.out (by simp))
        have c0 : wo.cell? ⟨w.heap.size + 1, 2, none⟩ = some (.string xb) := xx2
        go_simp
        try exact ⟨rfl, rfl⟩
      · refine Stg.owes_pure rfl (by kernel_rfl) fun ρ L wo hs' hc' => ?_
        have h5 : ρ (.tmp 5) = .pointer (some ⟨w.heap.size + 1, 0, none⟩) := hs'.old' 5 (by kernel_rfl)
        go_simp
        try exact ⟨rfl, rfl⟩
      · refine Stg.owes_pure rfl (by kernel_rfl) fun ρ L wo hs' hc' => ?_
        have h114 : ρ (.tmp 114) = .pointer (some ⟨w.heap.size + 1, 5, none⟩) := hs'.new' 114 5 (by kernel_rfl)
        have hk := Stg.stage_one (C := fun v => Keep (fun b => b = bm ∨ b = bu) w2.drew v) (Stg.stage_not hs'.world (hs'.before 11 (by kernel_rfl))) (Keep.refl _ _) (fun v hv => hv.1)
        obtain ⟨xx0, xx1, xx2, xx3, xx4, xx5, xx6, xx7⟩ := cells8 (keep_blk hk HMP.out HXO.out (by simp))
        obtain ⟨yy0, yy1, yy2⟩ := cells3_blk (keep_blk hk HMP.out HX9.out (by simp))
        have c0 : wo.cell? ⟨w.heap.size + 1, 5, none⟩ = some (.slice al xl.length cl) := xx5
        go_simp
        try exact ⟨rfl, rfl⟩
      · refine Stg.owes_turn (pre := [(11, (fun v => ∃ u, (Keep (fun b => b = bm ∨ b = bu) w2.drew u ∧ Hsx u bh bm bu P1) ∧ v = u.setRow (w.heap.size + 2) #[.string n2, .slice a2 m2 c2, .slice a3 m3 c3]))]) rfl rfl (by kernel_rfl) fun ρ L wo hs' hc' hw => ?_
        have h109 : ρ (.tmp 109) = .pointer (some ⟨bh, 0, none⟩) := hs'.new' 109 0 (by kernel_rfl)
        have h111 : ρ (.tmp 111) = .string xn := hs'.new' 111 2 (by kernel_rfl)
        have h113 : ρ (.tmp 113) = .string xb := hs'.new' 113 4 (by kernel_rfl)
        have h115 : ρ (.tmp 115) = .slice al xl.length cl := hs'.new' 115 6 (by kernel_rfl)
        have hf := hs'.func 16
        have e0 : wo = w2.drew := hw
        subst e0
        go_simp
        exact HPR.out.mono fun e w' ⟨he, hk, hh⟩ => ⟨_, he, rfl, hk, hh⟩
      · refine Stg.owes_pure rfl (by kernel_rfl) fun ρ L wo hs' hc' => ?_
        have h15 : ρ (.tmp 15) = .pointer (some ⟨b9, 0, none⟩) := hs'.old' 15 (by kernel_rfl)
        have hk := Stg.stage_one (C := fun v => Keep (fun b => b = bm ∨ b = bu) w2.drew v) (Stg.stage_not hs'.world (hs'.before 11 (by kernel_rfl))) (Keep.refl _ _) (fun v hv => hv.1)
        obtain ⟨xx0, xx1, xx2, xx3, xx4, xx5, xx6, xx7⟩ := cells8 (keep_blk hk HMP.out HXO.out (by simp))
        obtain ⟨yy0, yy1, yy2⟩ := cells3_blk (keep_blk hk HMP.out HX9.out (by simp))
        have c0 : wo.cell? ⟨b9, 0, none⟩ = some (.string n2) := yy0
        have c1 : wo.cell? ⟨b9, 1, none⟩ = some (.slice a2 m2 c2) := yy1
        have c2 : wo.cell? ⟨b9, 2, none⟩ = some (.slice a3 m3 c3) := yy2
        go_simp
        try exact ⟨rfl, rfl⟩
      · refine Stg.owes_pure rfl (by kernel_rfl) fun ρ L wo hs' hc' => ?_
        have h16 : ρ (.tmp 16) = .int .i64 C2 := hs'.old' 16 (by kernel_rfl)
        exact Any.ok_move ⟨h16, rfl⟩
      · refine Stg.owes_pure rfl (by kernel_rfl) fun ρ L wo hs' hc' => ?_
        have h116 : ρ (.tmp 116) = .int .i64 C1 := hs'.new' 116 7 (by kernel_rfl)
        exact Any.ok_assign ⟨h116, rfl⟩
      · refine Stg.owes_turn (pre := []) rfl rfl (by kernel_rfl) fun ρ L wo hs' hc' hw => ?_
        have h7 : ρ (.tmp 7) = .pointer (some ⟨w.heap.size + 2, 0, none⟩) := hs'.old' 7 (by kernel_rfl)
        have h117 : ρ (.tmp 117) = .agg #[.string n2, .slice a2 m2 c2, .slice a3 m3 c3] := hs'.new' 117 8 (by kernel_rfl)
        have hr := Stg.stage_head hw (hs'.behind 7 (by kernel_rfl))
        exact Stg.ok_store_row h7 h117 (keep_blk hr.1 HMP.out HXR.out (by simp)) (by kernel_rfl) rfl house_one ⟨rfl, wo, hr, rfl⟩
      · refine Stg.owes_pure rfl (by kernel_rfl) fun ρ L wo hs' hc' => ?_
        have h118 : ρ (.tmp 118) = .int .i64 C2 := hs'.new' 118 9 (by kernel_rfl)
        exact Any.ok_assign ⟨h118, rfl⟩
    intro L w9 hL hst
    obtain ⟨u, ⟨hk, hh⟩, rfl⟩ := Stg.stage_head hst (hL 11 (by decide))
    have HKU := Lib.hid hk
    have HHU := Lib.hid hh
    have HXU := Lib.hid (keep_blk hk HMP.out HXR.out (by simp))
    clear hk hh hst hL
    simp only [Any.putAll]
    go_frame
    go_wp2_with fail
    ((try simp only [Exit.inBlock, Exit.then]); refine bodyPost_ret (results_tmp_row_tmp doRes _ _ (w.heap.size + 2) _ #[.string n2, .slice a2 m2 c2, .slice a3 m3 c3] (0, 0) _ (.int .i64 C1) (.int .i64 C2) rfl rfl rfl (setRow_at HXU.out) Tryz.underlying29 rfl (by kernel_rfl)) rfl ?_)
    exact HEND.out _ HKU.out HHU.out HXU.out
  have t1 : (xk == 1) = false := by simp [hk1]
  have t2 : (xk == 2) = false := by simp [hk2]
  have t3 : (xk == 3) = false := by simp [hk3]
  have t4 : (xk == 4) = false := by simp [hk4]
  have EC1 : ∀ h, opC h ⟨xk, xn, xb, xt, xd, xl, xs, npSnd xp⟩ = 0 := fun h => by rw [opC, if_neg hk1, if_neg hk2, if_neg hk3, if_neg hk4]
  have EH1 : ∀ h, opH h ⟨xk, xn, xb, xt, xd, xl, xs, npSnd xp⟩ = h := fun h => by rw [opH, if_neg hk1, if_neg hk2, if_neg hk3, if_neg hk4]
  rw [EH1] at HNZ
  rw [EC1, EC1, EH1, EH1]
  have HWE := Lib.hid hW0
  clear EC1 EH1 hk1 hk2 hk3 hk4 hW0
  go_enter Tryz.func19, Tryz.ntmps19
  go_wp2_with fail
  rw [HWE.out]
  have hbd : Below W0.heap.size W0 W0.drew := (Below.refl _ _).drew
  have HXX := Lib.hid (blk hbd (lt_blk HXX0.out) HXX0.out)
  have HXR := Lib.hid (blk hbd (lt_blk HXR0.out) HXR0.out)
  have HH2 := Lib.hid (HH0.out.below hbd)
  have HR2 := Lib.hid (HR0.out.below hbd)
  have HBW := Lib.hid (HB0.out.trans (hbd.mono HB0.out.size))
  refine Stg.region_lit (fun
    | 0 => .agg #[.string nx, .slice ax mx cx, .slice ay my cy]
    | 1 => .int .i64 0
    | 2 => undef
    | 3 => .int .i64 0
    | _ => undef) [(2, (fun v => v = W0.drew.setRow (w.heap.size + 2) #[.string nx, .slice ax mx cx, .slice ay my cy]))] (by kernel_rfl) (by kernel_rfl) (by kernel_rfl) ?_ ?_
  · refine ⟨?_, ?_, ?_, ?_, trivial⟩
    · refine Stg.owes_pure rfl (by kernel_rfl) fun ρ L wo hs' hc' => ?_
      have h4 : ρ (.tmp 4) = .pointer (some ⟨w.heap.size, 0, none⟩) := hs'.old' 4 (by kernel_rfl)
      have e0 : wo = W0.drew := Stg.stage_not hs'.world (hs'.before 2 (by kernel_rfl))
      obtain ⟨yy0, yy1, yy2⟩ := cells3_blk ((congrArg (fun v : World => v.heap[w.heap.size]?) e0).trans HXX.out)
      have he0 := Lib.hid e0
      clear e0
      have c0 : wo.cell? ⟨w.heap.size, 0, none⟩ = some (.string nx) := yy0
      have c1 : wo.cell? ⟨w.heap.size, 1, none⟩ = some (.slice ax mx cx) := yy1
      have c2 : wo.cell? ⟨w.heap.size, 2, none⟩ = some (.slice ay my cy) := yy2
      go_simp
      try exact ⟨rfl, rfl⟩
    · refine Stg.owes_pure rfl (by kernel_rfl) fun ρ L wo hs' hc' => ?_
      exact Any.ok_assign ⟨(hc' _), rfl⟩
    · refine Stg.owes_turn (pre := []) rfl rfl (by kernel_rfl) fun ρ L wo hs' hc' hw => ?_
      have h7 : ρ (.tmp 7) = .pointer (some ⟨w.heap.size + 2, 0, none⟩) := hs'.old' 7 (by kernel_rfl)
      have h119 : ρ (.tmp 119) = .agg #[.string nx, .slice ax mx cx, .slice ay my cy] := hs'.new' 119 0 (by kernel_rfl)
      have e0 : wo = W0.drew := hw
      subst e0
      exact Stg.ok_store_row h7 h119 HXR.out (by kernel_rfl) rfl house_one ⟨rfl, rfl⟩
    · refine Stg.owes_pure rfl (by kernel_rfl) fun ρ L wo hs' hc' => ?_
      exact Any.ok_assign ⟨(hc' _), rfl⟩
  intro L w9 hL hst
  have e0 := Stg.stage_head hst (hL 2 (by decide))
  subst e0
  clear hst hL
  simp only [Any.putAll]
  go_frame
  go_wp2_with fail
  ((try simp only [Exit.inBlock, Exit.then]); refine bodyPost_ret (results_tmp_row_tmp doRes _ _ (w.heap.size + 2) _ #[.string nx, .slice ax mx cx, .slice ay my cy] (0, 0) _ (.int .i64 0) (.int .i64 0) rfl rfl rfl (setRow_at HXR.out) Tryz.underlying29 rfl (by kernel_rfl)) rfl ?_)
  exact ⟨_, rfl, (Keep.of_below (F := fun b => b = bm ∨ b = bu) HBW.out).trans (setRow_keep _ _ _) (fun b hb e => absurd hb (by omega)), HH2.out.boxed HXR.out _, HR2.out.boxed HXR.out (.inr HNZ.out)⟩
end Go.Proofs.YticnmmfiadpbbaaGreat.Sc
namespace Go.Proofs.YticnmmfiadpbbaaGreat.Sc
open Go Go.RowKit Go.ChangeShapes Go.WideShapes Go.ChangeAt
set_option maxRecDepth 100000

set_option maxHeartbeats 8000000 in
theorem like_any {k : Nat} {h : Hs} {bh bm bu : Nat} (x : Value) (w : World) (H : Hsx w bh bm bu h) (R : RefH w x h) (hk : HsOk k h) (hkk : k ≤ 24) :
    Calls Tryz.prog 20 #[.pointer (some ⟨bh, 0, none⟩), x] w (RetB w true) := by
  have hll : h.L.length ≤ 1536 := by have := hk.len; omega
  have hal : (allL h.L).length ≤ 100000 := by have := allL_len hk; omega
  have HST0 := Lib.hid (fun W (hb : Below w.heap.size w W) => stockH_any (k := k) W (H.below hb) hk hal (by omega))
  have HSR0 := Lib.hid (fun W (hb : Below w.heap.size w W) => refStock_any x W (R.below hb) hk hal (by omega))
  obtain ⟨M, vL, vU, rfl, h1, h2, h3, h4⟩ := R
  obtain ⟨nm, hnm⟩ : ∃ n, n = h.name := ⟨_, rfl⟩
  rw [← hnm] at HSR0 ⊢
  obtain ⟨aL, cL, rfl⟩ : ∃ a c, vL = .slice a M.length c := by simpa using h2.shape
  obtain ⟨aU, mU, cU, rfl⟩ : ∃ a m c, vU = .slice a m c := ⟨_, _, _, h4.shape.choose_spec.choose_spec⟩
  obtain ⟨N, hN⟩ : ∃ N, N = stockL h := ⟨_, rfl⟩
  rw [← hN] at HST0 HSR0
  have hml : M.length ≤ 9223372036854775807 := by have := congrArg List.length h1; simp only [rcsOf, List.length_map] at this; omega
  have HEQ := Lib.hid h1
  have HS2 := Lib.hid h2
  have HS3 := Lib.hid h3
  have HH := Lib.hid H
  have HOK := Lib.hid hk
  clear h1 h2 h3 h4 H hk hll hal hnm hN
  have HXB0 := Lib.hid (heap_alloc_new w (.cells #[.string nm, .slice aL M.length cL, .slice aU mU cU] 29))
  have HBE0 := Lib.hid (one_below w (.cells #[.string nm, .slice aL M.length cL, .slice aU mU cU] 29))
  go_enter Tryz.func20, Tryz.ntmps20
  go_wp2_with fail
  go_loopw [6, 7, 8, 12] (fun _ _ _ i wr => ∃ k : Nat, k ≤ M.length ∧ i = .int .i64 k ∧ Below w.heap.size w wr ∧ wr.heap[w.heap.size]? = some (.cells #[.string nm, .slice aL M.length cL, .slice aU mU cU] 29 (0, 0))) (fun _ _ _ i _ => M.length - (intOf i).toNat)
  case atStart => exact ⟨0, Nat.zero_le _, rfl, HBE0.out, HXB0.out⟩
  case round =>
    obtain ⟨k, hk, rfl, hbel, hxb⟩ := hrel
    have HBEL := Lib.hid hbel
    have HXB := Lib.hid hxb
    clear hxb
    by_cases hlt : k < M.length
    · obtain ⟨b, off, rfl, -, hb, hc⟩ := HS2.out.at (i := k) (by simpa using hlt)
      have hr := hc k M[k].row (by simp [hlt])
      have d0 := (hbel.cell (p := ⟨b, off + k * 5, none⟩) hb).trans (hr 0 _ rfl)
      have d1 := (hbel.cell (p := ⟨b, off + k * 5 + 1, none⟩) hb).trans (hr 1 _ rfl)
      have d2 := (hbel.cell (p := ⟨b, off + k * 5 + 2, none⟩) hb).trans (hr 2 _ rfl)
      have d3 := (hbel.cell (p := ⟨b, off + k * 5 + 3, none⟩) hb).trans (hr 3 _ rfl)
      have d4 := (hbel.cell (p := ⟨b, off + k * 5 + 4, none⟩) hb).trans (hr 4 _ rfl)
      have hmem : M[k].rc ∈ h.L := by rw [← HEQ.out]; exact List.mem_map_of_mem (List.getElem_mem hlt)
      have hyv : RvOk wr M[k] := Sl.below (HS3.out M[k] (List.getElem_mem hlt)) hbel (Nat.le_refl _)
      generalize M[k] = y at *
      obtain ⟨⟨yn, yh, yo, yl, yd⟩, yv⟩ := y
      obtain ⟨ay, cy, rfl⟩ : ∃ a c, yv = .slice a yl.length c := by have := Sl.shape hyv; simpa using this
      simp only at d0 d1 d2 d3 d4 hmem
      have hrf := rfind_mem HOK.out.up hmem
      have HGET : Hid (∀ W, Hsx W bh bm bu h → Calls Tryz.prog 7 #[.pointer (some ⟨bh, 0, none⟩), .string yn] W (fun e w' => Below W.heap.size W w' ∧ ∃ lv, e = .returned (.tuple #[.agg #[.string yn, .string yh, .string yo, lv, .int .i64 yd], .bool true]) ∧ Sl w' 2 lv (yl.map Lt.row))) := Lib.hid (fun W hW => by
        have e1 : getR h yn = ⟨yn, yh, yo, yl, yd⟩ := by unfold getR; rw [hrf]; rfl
        have e2 : thereB h yn = true := by unfold thereB; rw [hrf]; rfl
        have := getH_any yn W hW HOK.out
        unfold GetHP at this
        rw [e1, e2] at this
        exact this)
      have HONE : Hid (∀ W l1 l2, Sl W 2 l1 (yl.map Lt.row) → Sl W 2 l2 (yl.map Lt.row) → Calls Tryz.prog 9 #[.agg #[.string yn, .string yh, .string yo, l1, .int .i64 yd], .agg #[.string yn, .string yh, .string yo, l2, .int .i64 yd]] W (RetB W true)) := Lib.hid (fun W l1 l2 hl1 hl2 => by
        have := refOne_any ⟨⟨yn, yh, yo, yl, yd⟩, l1⟩ ⟨⟨yn, yh, yo, yl, yd⟩, l2⟩ W hl1 hl2
        rw [oneB_self] at this
        exact this)
      have HYV := Lib.hid hyv
      obtain ⟨wq, rfl⟩ : ∃ W, W = wr := ⟨_, rfl⟩
      have HH := Lib.hid (HH.out.below HBEL.out)
      have HBA := Lib.hid (one_below wq (.cells #[.string yn, .string yh, .string yo, .slice ay yl.length cy, .int .i64 yd] 34))
      have HXA := Lib.hid (heap_alloc_new wq (.cells #[.string yn, .string yh, .string yo, .slice ay yl.length cy, .int .i64 yd] 34))
      clear hr hc hb hbel hmem hrf hyv
      go_wp2_with (first
        | ((with_reducible refine (HGET.out _ (HH.out.below HBA.out)).mono ?_); rintro e w1 ⟨hb1, lv, rfl, hs1⟩; obtain ⟨al, cl, rfl⟩ : ∃ a c, lv = .slice a yl.length c := (by simpa using hs1.shape); have HX6 := Lib.hid (blk hb1 (lt_blk HXA.out) HXA.out); obtain ⟨z0, z1, z2, z3, z4⟩ := five_blk HX6.out; have zl := lt_blk HX6.out; have HS1 := Lib.hid hs1; have HB1 := Lib.hid (HBA.out.trans (hb1.mono HBA.out.size)); have HSA := Lib.hid (Sl.below HS1.out (one_below w1 (.cells #[.string yn, .string yh, .string yo, .slice al yl.length cl, .int .i64 yd] 34)) (Nat.le_refl _)); have HBC := Lib.hid (HB1.out.trans ((one_below w1 (.cells #[.string yn, .string yh, .string yo, .slice al yl.length cl, .int .i64 yd] 34)).mono HB1.out.size)); have HYA := Lib.hid (Sl.below HYV.out HBC.out (Nat.le_refl _)); clear hb1 hs1)
        | ((with_reducible refine (HONE.out _ _ _ HSA.out HYA.out).mono ?_); rintro e w2 ⟨rfl, hb2⟩; have HB2 := Lib.hid (HBC.out.trans (hb2.mono HBC.out.size)); clear hb2)
        | fail)
      go_roundw
      case rel => exact ⟨k + 1, by omega, by go_num, HBEL.out.trans (HB2.out.mono HBEL.out.size), blk HB2.out (lt_blk HXB.out) HXB.out⟩
      case measure => (simp [intOf]) <;> omega
    · obtain ⟨B9, hB9⟩ : ∃ B, B = wr.heap.size := ⟨_, rfl⟩
      have HB9 : Hid (B9 ≤ wr.heap.size) := Lib.hid (Nat.le_of_eq hB9)
      have HST := Lib.hid (fun W (hb : Below wr.heap.size wr W) => HST0.out W (HBEL.out.trans (hb.mono HBEL.out.size)))
      have HSR := Lib.hid (fun W (hb : Below wr.heap.size wr W) => HSR0.out W (HBEL.out.trans (hb.mono HBEL.out.size)))
      have HSM : Hid (∀ W s t, Sl W 2 s (N.map Lt.row) → Sl W 2 t (N.map Lt.row) → Calls Tryz.prog 23 #[s, t] W (RetB W true)) := Lib.hid (fun W s t hs ht => by
        have := refSameL_any N N s t W hs ht
        rw [decide_eq_true rfl] at this
        exact this)
      clear hB9 hbel
      go_wp2_with fail
      refine Any.region_lit (fun
        | 0 => Any.val (.pointer (some ⟨bh, 0, none⟩))
        | 1 => Any.row B9 47 2 (N.length) (ltCells N) []
        | 2 => Any.val (.agg #[.string nm, .slice aL M.length cL, .slice aU mU cU])
        | 3 => Any.row B9 47 2 (N.length) (ltCells N) []
        | 4 => Any.val (.bool true)
        | 5 => Any.val (.bool true)
        | _ => Any.idle) (by kernel_rfl) (by kernel_rfl) (by kernel_rfl) ?_ ?_ ?_
      · intro i _
        match i with
        | 0 => exact Any.lasts_val _
        | 1 => exact Any.lasts_row _ _ _ _ _ _
        | 2 => exact Any.lasts_val _
        | 3 => exact Any.lasts_row _ _ _ _ _ _
        | 4 => exact Any.lasts_val _
        | 5 => exact Any.lasts_val _
        | n + 6 => exact Any.lasts_idle
      · refine ⟨?_, ?_, ?_, ?_, ?_, ?_, trivial⟩
        · refine Any.owes_plain rfl fun ρ wo hs' hb hc' => ?_
          have h0 : ρ (.tmp 0) = .pointer (some ⟨bh, 0, none⟩) := hs'.old' 0 (by kernel_rfl)
          exact Any.ok_move (Any.post_val hb rfl h0)
        · refine Any.owes_plain rfl fun ρ wo hs' hb hc' => ?_
          have h32 : ρ (.tmp 32) = .pointer (some ⟨bh, 0, none⟩) := hs'.new' 32 0 (by kernel_rfl)
          have hf := hs'.func 17
          go_simp
          exact (HST.out wo (below_undrew hb)).mono fun e w' ⟨v, he, ho, hb'⟩ => ⟨v, he, Any.post_new hb (ownsRow_base ho (Nat.le_trans HB9.out hb.size)) hb' (fun b h => (ho.lt b h).1)⟩
        · refine Any.owes_plain rfl fun ρ wo hs' hb hc' => ?_
          have h3 : ρ (.tmp 3) = .pointer (some ⟨w.heap.size, 0, none⟩) := hs'.old' 3 (by kernel_rfl)
          obtain ⟨c0, c1, c2⟩ := cells3_blk (blk (below_undrew hb) (lt_blk HXB.out) HXB.out)
          go_simp
          exact Any.post_val hb rfl rfl
        · refine Any.owes_plain rfl fun ρ wo hs' hb hc' => ?_
          have h34 : ρ (.tmp 34) = .agg #[.string nm, .slice aL M.length cL, .slice aU mU cU] := hs'.new' 34 2 (by kernel_rfl)
          have hf := hs'.func 58
          go_simp
          exact (HSR.out wo (below_undrew hb)).mono fun e w' ⟨v, he, ho, hb'⟩ => ⟨v, he, Any.post_new hb (ownsRow_base ho (Nat.le_trans HB9.out hb.size)) hb' (fun b h => (ho.lt b h).1)⟩
        · refine Any.owes_plain rfl fun ρ wo hs' hb hc' => ?_
          have hf := hs'.func 23
          have h33 : wo.ownsRow B9 47 2 (ρ (.tmp 33)) N.length (ltCells N) := hs'.new' 33 1 (by kernel_rfl)
          have h35 : wo.ownsRow B9 47 2 (ρ (.tmp 35)) N.length (ltCells N) := hs'.new' 35 3 (by kernel_rfl)
          go_simp
          exact (HSM.out wo _ _ (own_lots h33 rfl) (own_lots h35 rfl)).mono fun e w' ⟨he, hb'⟩ => ⟨_, he, Any.post_vals hb rfl rfl hb'⟩
        · refine Any.owes_plain rfl fun ρ wo hs' hb hc' => ?_
          have h36 : ρ (.tmp 36) = .bool true := hs'.new' 36 4 (by kernel_rfl)
          go_simp
          exact Any.post_val hb rfl rfl
      intro vals w5 hb hk ha
      have h5 : vals 5 = .bool true := hk 5 (by kernel_rfl)
      have HB5 := Lib.hid hb
      clear hk ha hb
      simp only [Any.putAll]
      go_frame
      simp only [Nat.zero_add, Nat.reduceAdd]
      rw [h5]
      go_wp2_with fail
      go_ret
      exact retB rfl (HBEL.out.trans (HB5.out.mono HBEL.out.size))
end Go.Proofs.YticnmmfiadpbbaaGreat.Sc
namespace Go.Proofs.YticnmmfiadpbbaaGreat.Sc
open Go Go.RowKit Go.ChangeShapes Go.WideShapes Go.ChangeAt
set_option maxRecDepth 100000

theorem playRes : (Tryz.f6).results = #[.tmp 4, .cell 5 29] := by kernel_rfl
/-- Behind play: the house, and the document's. -/
def PlayP (w : World) (h : Hs) (e : Ending) (w' : World) : Prop :=
  ∃ bh bm bu x, e = .returned (.tuple #[.pointer (some ⟨bh, 0, none⟩), x]) ∧ Hsx w' bh bm bu h ∧ RefH w' x h ∧ (w.heap.size ≤ bh ∧ w.heap.size ≤ bm ∧ w.heap.size ≤ bu) ∧ Below w.heap.size w w'
theorem opH_name (h : Hs) (o : Rop) : (opH h o).name = h.name := by
  unfold opH
  split
  · unfold storeH; split <;> rfl
  split
  · unfold passH; split
    · split <;> rfl
    · rfl
  split
  · unfold partH; split
    · split <;> rfl
    · rfl
  split
  · unfold outH; split
    · split <;> rfl
    · rfl
  · rfl
theorem playH_name (h : Hs) (l : List Rop) : (playH h l).name = h.name := by
  induction l generalizing h with
  | nil => rfl
  | cons o r ih => exact (ih (opH h o)).trans (opH_name h o)
def ropsOf (l : List Opv) : List Rop := l.map Opv.rop
theorem playH_take (h : Hs) (l : List Opv) (k : Nat) (hk : k < l.length) : playH h (ropsOf (l.take (k + 1))) = opH (playH h (ropsOf (l.take k))) l[k].rop := by
  rw [List.take_succ_eq_append_getElem hk, ropsOf, List.map_append, playH, List.foldl_append]
  rfl
theorem opH_five (h : Hs) {o : Rop} (hk : o.kind = 5) : opH h o = h := by unfold opH; rw [hk]; rfl
set_option maxHeartbeats 16000000 in
theorem play_any (nm : ByteArray) (l : List Opv) (v : Value) (w : World) (hs : OpsAt w v l) (hfit : ∀ o ∈ l, o.fit) (hsm : ∀ o ∈ l, o.small) (hlen : l.length ≤ 20) :
    Calls Tryz.prog 6 #[.string nm, v] w (PlayP w (playH ⟨nm, [], []⟩ (ropsOf l))) := by
  obtain ⟨a, c, rfl⟩ : ∃ a c, v = .slice a l.length c := by simpa using hs.1.shape
  have HS := Lib.hid hs
  have HFIT := Lib.hid hfit
  have HSM := Lib.hid hsm
  obtain ⟨h0, hh0⟩ : ∃ h : Hs, h = ⟨nm, [], []⟩ := ⟨_, rfl⟩
  have HOK0 : Hid (HsOk 0 h0) := Lib.hid (by rw [hh0]; exact hsOk_nil nm)
  have HN0 : Hid (h0.name = nm) := Lib.hid (by rw [hh0])
  have HNEW : Hid (∀ W, Calls Tryz.prog 12 #[.string nm] W (fun e w' => Below W.heap.size W w' ∧ ∃ bh bm bu, e = .returned (.pointer (some ⟨bh, 0, none⟩)) ∧ Hsx w' bh bm bu h0 ∧ W.heap.size ≤ bh ∧ W.heap.size ≤ bm ∧ W.heap.size ≤ bu)) := Lib.hid (fun W => by rw [hh0]; exact newH_any nm W)
  have HRN : Hid (∀ W, RefH W (.agg #[.string nm, .slice none 0 0, .slice none 0 0]) h0) := Lib.hid (fun W => ⟨[], _, _, by rw [hh0], by rw [hh0]; rfl, .inl ⟨rfl, none, 0, rfl, fun _ => rfl⟩, fun y hy => (by cases hy), by rw [hh0]; exact .inl ⟨rfl, none, 0, rfl, fun _ => rfl⟩⟩)
  rw [← hh0]
  have HXR0 := Lib.hid (heap_alloc_new w (.cells #[.string ⟨#[]⟩, .slice none 0 0, .slice none 0 0] 29))
  have HBE0 := Lib.hid (one_below w (.cells #[.string ⟨#[]⟩, .slice none 0 0, .slice none 0 0] 29))
  clear hs hfit hsm hh0
  go_enter Tryz.func6, Tryz.ntmps6
  go_wp2_with (first
    | ((with_reducible refine (HNEW.out _).mono ?_); rintro e w1 ⟨hb1, bh0, bm0, bu0, rfl, hh1, g1, g2, g3⟩; have HB1 := Lib.hid hb1; have HH1 := Lib.hid hh1; have HGE0 : Hid (w.heap.size ≤ bh0 ∧ w.heap.size ≤ bm0 ∧ w.heap.size ≤ bu0) := Lib.hid (by have := HBE0.out.size; omega); have HXR1 := Lib.hid (blk hb1 (lt_blk HXR0.out) HXR0.out); clear hb1 hh1 g1 g2 g3)
    | fail)
  have hba := one_below w1 (.cells #[.string nm, .slice none 0 0, .slice none 0 0] 29)
  have HXB1 := Lib.hid (heap_alloc_new w1 (.cells #[.string nm, .slice none 0 0, .slice none 0 0] 29))
  have HH1' := Lib.hid (HH1.out.below hba)
  have HXR1' := Lib.hid (blk hba (lt_blk HXR1.out) HXR1.out)
  have HB1' := Lib.hid ((HBE0.out.trans (HB1.out.mono HBE0.out.size)).trans (hba.mono (Nat.le_trans HBE0.out.size HB1.out.size)))
  obtain ⟨bx, hbx⟩ : ∃ b, b = w1.heap.size := ⟨_, rfl⟩
  have HBX : Hid (w.heap.size < bx) := Lib.hid (by have := lt_blk HXR1.out; omega)
  rw [← hbx] at HXB1 ⊢
  clear hba hbx
  go_loopw [6, 22] (fun hv i wr => ∃ (k bh bm bu : Nat) (a1 : Option Addr) (m1 c1 : Nat) (a2 : Option Addr) (m2 c2 : Nat), k ≤ l.length ∧ i = .int .i64 k ∧ hv = .pointer (some ⟨bh, 0, none⟩) ∧ Hsx wr bh bm bu (playH h0 (ropsOf (l.take k))) ∧
    wr.heap[bx]? = some (.cells #[.string nm, .slice a1 m1 c1, .slice a2 m2 c2] 29 (0, 0)) ∧ RefH wr (.agg #[.string nm, .slice a1 m1 c1, .slice a2 m2 c2]) (playH h0 (ropsOf (l.take k))) ∧
    wr.heap[w.heap.size]? = some (.cells #[.string ⟨#[]⟩, .slice none 0 0, .slice none 0 0] 29 (0, 0)) ∧ (w.heap.size ≤ bh ∧ w.heap.size ≤ bm ∧ w.heap.size ≤ bu) ∧ Below w.heap.size w wr) (fun _ i _ => l.length - (intOf i).toNat)
  case atStart => exact ⟨0, bh0, bm0, bu0, none, 0, 0, none, 0, 0, Nat.zero_le _, rfl, rfl, HH1'.out, HXB1.out, HRN.out _, HXR1'.out, HGE0.out, HB1'.out⟩
  case round =>
    obtain ⟨k, bh, bm, bu, a1, m1, c1, a2, m2, c2, hk, rfl, rfl, hh, hxb, hr, hxr, hge, hbel⟩ := hrel
    have HGE := Lib.hid hge
    have HOKK : Hid (HsOk k (playH h0 (ropsOf (l.take k)))) := Lib.hid (by
      have h1 := HOK0.out.play (ropsOf (l.take k))
      have h2 : (ropsOf (l.take k)).length = k := by rw [ropsOf, List.length_map, List.length_take, Nat.min_eq_left hk]
      rwa [h2, Nat.zero_add] at h1)
    by_cases hlt : k < l.length
    · obtain ⟨b, off, rfl, -, hb, hc⟩ := HS.out.1.at (i := k) (by simpa using hlt)
      have hro := hc k l[k].row (by simp [hlt])
      have d0 := (hbel.cell (p := ⟨b, off + k * 8, none⟩) hb).trans (hro 0 _ rfl)
      have d1 := (hbel.cell (p := ⟨b, off + k * 8 + 1, none⟩) hb).trans (hro 1 _ rfl)
      have d2 := (hbel.cell (p := ⟨b, off + k * 8 + 2, none⟩) hb).trans (hro 2 _ rfl)
      have d3 := (hbel.cell (p := ⟨b, off + k * 8 + 3, none⟩) hb).trans (hro 3 _ rfl)
      have d4 := (hbel.cell (p := ⟨b, off + k * 8 + 4, none⟩) hb).trans (hro 4 _ rfl)
      have d5 := (hbel.cell (p := ⟨b, off + k * 8 + 5, none⟩) hb).trans (hro 5 _ rfl)
      have d6 := (hbel.cell (p := ⟨b, off + k * 8 + 6, none⟩) hb).trans (hro 6 _ rfl)
      have d7 := (hbel.cell (p := ⟨b, off + k * 8 + 7, none⟩) hb).trans (hro 7 _ rfl)
      have hat := (HS.out.2 l[k] (List.getElem_mem hlt)).below hbel
      have HT0 := Lib.hid (playH_take h0 l k hlt)
      have hfo := HFIT.out l[k] (List.getElem_mem hlt)
      have hsx := HSM.out l[k] (List.getElem_mem hlt)
      have hnm := playH_name h0 (ropsOf (l.take k))
      rw [HN0.out] at hnm
      generalize playH h0 (ropsOf (l.take k)) = hq at *
      generalize l[k] = x at *
      have HDO0 := Lib.hid (fun W (y : Value) (h1 : Hsx W bh bm bu hq) (h2 : RefH W y hq) (h3 : x.at W) => do_any x y W h1 h2 HOKK.out HOKK.out h3 hfo hsx (by omega))
      have HOK2 := Lib.hid (HOKK.out.op x.rop)
      have HNM0 : Hid ((opH hq x.rop).name = nm) := Lib.hid ((opH_name _ _).trans hnm)
      have H5 : Hid (x.kind = 5 → opH hq x.rop = hq) := Lib.hid (fun e => opH_five hq e)
      obtain ⟨xk, xn, xb, xt, xd, xl, xs, xp, lv, nv, pv⟩ := x
      obtain ⟨al, cl, rfl⟩ : ∃ a c, lv = .slice a xl.length c := by simpa using hat.1.shape
      obtain ⟨an, cn, rfl⟩ : ∃ a c, nv = .slice a xs.length c := by simpa using hat.2.1.shape
      obtain ⟨ap, cp, rfl⟩ : ∃ a c, pv = .slice a xp.length c := by simpa using hat.2.2.1.shape
      simp only at d0 d1 d2 d3 d4 d5 d6 d7
      obtain ⟨wq, rfl⟩ : ∃ W, W = wr := ⟨_, rfl⟩
      have hba := one_below wq (.cells #[.int .i64 xk, .string xn, .string xb, .string xt, .int .i64 xd, .slice al xl.length cl, .slice an xs.length cn, .slice ap xp.length cp] 43)
      have HBA := Lib.hid (hbel.trans (hba.mono hbel.size))
      have HHA := Lib.hid (hh.below hba)
      have HRA := Lib.hid (hr.below hba)
      have HATA := Lib.hid (hat.below hba)
      have HXBA := Lib.hid (blk hba (lt_blk hxb) hxb)
      have HXRA := Lib.hid (blk hba (lt_blk hxr) hxr)
      obtain ⟨z0, z1, z2⟩ := cells3_blk hxb
      have zl := lt_blk hxb
      clear hro hc hb hbel hat hfo hsx hba hh hr hxb hxr hge
      by_cases hk5 : xk = 5
      · have t5 : (xk == 5) = true := by simp [hk5]
        have HT : Hid (playH h0 (ropsOf (l.take (k + 1))) = hq) := Lib.hid (HT0.out.trans (H5.out hk5))
        have HCP := Lib.hid (fun W (h : Hsx W bh bm bu hq) => copyH_any W h HOKK.out)
        clear hk5
        go_wp2_with (first
          | ((with_reducible refine (HCP.out _ HHA.out).mono ?_); rintro e w2 ⟨hb2, bh2, bm2, bu2, rfl, hh2, g1, g2, g3⟩; have HB2 := Lib.hid (HBA.out.trans (hb2.mono HBA.out.size)); have HH2 := Lib.hid hh2; have HR2 := Lib.hid (HRA.out.below hb2); have HXB2 := Lib.hid (blk hb2 (lt_blk HXBA.out) HXBA.out); have HXR2 := Lib.hid (blk hb2 (lt_blk HXRA.out) HXRA.out); have HGE2 : Hid (w.heap.size ≤ bh2 ∧ w.heap.size ≤ bm2 ∧ w.heap.size ≤ bu2) := Lib.hid (by have := HBA.out.size; omega); clear hb2 hh2 g1 g2 g3)
          | fail)
        go_roundw
        case rel => exact ⟨k + 1, bh2, bm2, bu2, a1, m1, c1, a2, m2, c2, by omega, by go_num, rfl, by rw [HT.out]; exact HH2.out, HXB2.out, by rw [HT.out]; exact HR2.out, HXR2.out, HGE2.out, HB2.out⟩
        case measure => (simp [intOf]) <;> omega
      · have t5 : (xk == 5) = false := by simp [hk5]
        obtain ⟨C, hC⟩ : ∃ C, C = opC hq (Opv.rop ⟨xk, xn, xb, xt, xd, xl, xs, xp, .slice al xl.length cl, .slice an xs.length cn, .slice ap xp.length cp⟩) := ⟨_, rfl⟩
        obtain ⟨hz, hhz⟩ : ∃ hz, hz = opH hq (Opv.rop ⟨xk, xn, xb, xt, xd, xl, xs, xp, .slice al xl.length cl, .slice an xs.length cn, .slice ap xp.length cp⟩) := ⟨_, rfl⟩
        rw [← hhz] at HT0 HOK2 HNM0
        rw [← hC, ← hhz] at HDO0
        have HT := Lib.hid HT0.out
        have HNM := Lib.hid HNM0.out
        have HDO : Hid (∀ W, Hsx W bh bm bu hq → RefH W (.agg #[.string nm, .slice a1 m1 c1, .slice a2 m2 c2]) hq → Opv.at W ⟨xk, xn, xb, xt, xd, xl, xs, xp, .slice al xl.length cl, .slice an xs.length cn, .slice ap xp.length cp⟩ → Calls Tryz.prog 19 #[.pointer (some ⟨bh, 0, none⟩), .agg #[.string nm, .slice a1 m1 c1, .slice a2 m2 c2], .agg #[.int .i64 xk, .string xn, .string xb, .string xt, .int .i64 xd, .slice al xl.length cl, .slice an xs.length cn, .slice ap xp.length cp]] W (DoP W bh bm bu hz hz C C)) := Lib.hid (fun W h1 h2 h3 => HDO0.out W _ h1 h2 h3)
        have HLK := Lib.hid (fun W (y : Value) (h1 : Hsx W bh bm bu hz) (h2 : RefH W y hz) => like_any y W h1 h2 HOK2.out (by omega))
        have tc : (C != C) = false := by simp
        clear hk5 hC hhz HDO0 HT0 HNM0
        go_wp2_with (first
          | ((with_reducible refine (HDO.out _ HHA.out HRA.out HATA.out).mono ?_); rintro e w2 ⟨y, rfl, hk2, hh2, hr2⟩; obtain ⟨a3, m3, c3, a4, m4, c4, ey⟩ := hr2.shape; subst ey; rw [HNM.out] at hr2 ⊢; have HMP := Lib.hid HHA.out.maps; have HXB2 := Lib.hid (keep_blk hk2 HMP.out HXBA.out (by simp)); have HXR2 := Lib.hid (keep_blk hk2 HMP.out HXRA.out (by simp)); have HB2 := Lib.hid (hk2.behind HBA.out HBA.out.size (fun q hq e => by have := HGE.out; omega)); have HB3 := Lib.hid (HB2.out.trans ((one_below w2 (.cells #[.string nm, .slice a3 m3 c3, .slice a4 m4 c4] 29)).mono HB2.out.size)); have HBN := Lib.hid (one_below w2 (.cells #[.string nm, .slice a3 m3 c3, .slice a4 m4 c4] 29)); have HH3 := Lib.hid (hh2.below HBN.out); have HR3 := Lib.hid (hr2.below HBN.out); have HX3 := Lib.hid (heap_alloc_new w2 (.cells #[.string nm, .slice a3 m3 c3, .slice a4 m4 c4] 29)); clear hk2 hh2 hr2)
          | ((with_reducible refine (HLK.out _ _ HH3.out HR3.out).mono ?_); rintro e w4 ⟨rfl, hb4⟩; have HX4 := Lib.hid (blk hb4 (lt_blk HX3.out) HX3.out); obtain ⟨y0, y1, y2⟩ := cells3_blk HX4.out; have HB4 := Lib.hid (HB3.out.trans (hb4.mono HB3.out.size)); have HH4 := Lib.hid (HH3.out.below hb4); have HR4 := Lib.hid (HR3.out.below hb4); have HXB4 := Lib.hid (blk hb4 (Nat.lt_of_lt_of_le (lt_blk HXB2.out) HBN.out.size) (blk HBN.out (lt_blk HXB2.out) HXB2.out)); have HXR4 := Lib.hid (blk hb4 (Nat.lt_of_lt_of_le (lt_blk HXR2.out) HBN.out.size) (blk HBN.out (lt_blk HXR2.out) HXR2.out)); clear hb4)
          | (refine wpList_store_row (P := Tryz.prog) rfl 29 (.tmp 7) (.tmp 52) rfl bx #[.string nm, .slice a3 m3 c3, .slice a4 m4 c4] rfl rfl _ _ HXB4.out (by kernel_rfl) rfl house_one ?_)
          | fail)
        have HK5 := Lib.hid (setRow_keep w4 bx #[.string nm, .slice a3 m3 c3, .slice a4 m4 c4])
        go_roundw
        case rel => exact ⟨k + 1, bh, bm, bu, a3, m3, c3, a4, m4, c4, by omega, by go_num, rfl, by rw [HT.out]; exact HH4.out.boxed HXB4.out _, setRow_at HXB4.out, by rw [HT.out]; exact HR4.out.boxed HXB4.out (.inl rfl), HK5.out.blk HXR4.out (fun e => by have := HBX.out; omega), HGE.out, HK5.out.behind HB4.out HB4.out.size (fun q hq e => by have := HBX.out; omega)⟩
        case measure => (simp [intOf]) <;> omega
    · have HTK : Hid (l.take k = l) := Lib.hid (List.take_of_length_le (by omega))
      have hbd : Below wr.heap.size wr wr.drew := (Below.refl _ _).drew
      rw [HTK.out] at hh hr HOKK
      have HNZ := Lib.hid (used_full HOKK.out)
      have HHD := Lib.hid (hh.below hbd)
      have HRD := Lib.hid (hr.below hbd)
      have HXBD := Lib.hid (blk hbd (lt_blk hxb) hxb)
      have HXRD := Lib.hid (blk hbd (lt_blk hxr) hxr)
      have HBD := Lib.hid (hbel.trans (hbd.mono hbel.size))
      clear hh hr hxb hxr hbel hbd hge
      go_wp2_with fail
      refine Stg.region_lit (fun
        | 0 => .pointer (some ⟨bh, 0, none⟩)
        | 1 => .agg #[.string nm, .slice a1 m1 c1, .slice a2 m2 c2]
        | 2 => .pointer (some ⟨bh, 0, none⟩)
        | 3 => undef
        | _ => undef) [(3, (fun v => v = wr.drew.setRow w.heap.size #[.string nm, .slice a1 m1 c1, .slice a2 m2 c2]))] (by kernel_rfl) (by kernel_rfl) (by kernel_rfl) ?_ ?_
      · refine ⟨?_, ?_, ?_, ?_, trivial⟩
        · refine Stg.owes_pure rfl (by kernel_rfl) fun ρ L wo hs' hc' => ?_
          have h6 : ρ (.tmp 6) = .pointer (some ⟨bh, 0, none⟩) := hs'.old' 6 (by kernel_rfl)
          exact Any.ok_move ⟨h6, rfl⟩
        · refine Stg.owes_pure rfl (by kernel_rfl) fun ρ L wo hs' hc' => ?_
          have h7 : ρ (.tmp 7) = .pointer (some ⟨bx, 0, none⟩) := hs'.old' 7 (by kernel_rfl)
          have e0 : wo = wr.drew := Stg.stage_not hs'.world (hs'.before 3 (by kernel_rfl))
          obtain ⟨yy0, yy1, yy2⟩ := cells3_blk ((congrArg (fun v : World => v.heap[bx]?) e0).trans HXBD.out)
          have he0 := Lib.hid e0
          clear e0
          have c0 : wo.cell? ⟨bx, 0, none⟩ = some (.string nm) := yy0
          have c1 : wo.cell? ⟨bx, 1, none⟩ = some (.slice a1 m1 c1) := yy1
          have c2 : wo.cell? ⟨bx, 2, none⟩ = some (.slice a2 m2 c2) := yy2
          go_simp
          try exact ⟨rfl, rfl⟩
        · refine Stg.owes_pure rfl (by kernel_rfl) fun ρ L wo hs' hc' => ?_
          have h54 : ρ (.tmp 54) = .pointer (some ⟨bh, 0, none⟩) := hs'.new' 54 0 (by kernel_rfl)
          exact Any.ok_assign ⟨h54, rfl⟩
        · refine Stg.owes_turn (pre := []) rfl rfl (by kernel_rfl) fun ρ L wo hs' hc' hw => ?_
          have h5 : ρ (.tmp 5) = .pointer (some ⟨w.heap.size, 0, none⟩) := hs'.old' 5 (by kernel_rfl)
          have h55 : ρ (.tmp 55) = .agg #[.string nm, .slice a1 m1 c1, .slice a2 m2 c2] := hs'.new' 55 1 (by kernel_rfl)
          have e0 : wo = wr.drew := hw
          subst e0
          exact Stg.ok_store_row h5 h55 HXRD.out (by kernel_rfl) rfl house_one ⟨rfl, rfl⟩
      intro L w9 hL hst
      have e0 := Stg.stage_head hst (hL 3 (by decide))
      subst e0
      clear hst hL
      simp only [Any.putAll]
      go_frame
      go_wp2_with fail
      ((try simp only [Exit.inBlock, Exit.then]); refine bodyPost_ret (results_tmp_row playRes _ _ w.heap.size _ #[.string nm, .slice a1 m1 c1, .slice a2 m2 c2] (0, 0) _ (.pointer (some ⟨bh, 0, none⟩)) rfl rfl (setRow_at HXRD.out) Tryz.underlying29 rfl (by kernel_rfl)) rfl ?_)
      exact ⟨bh, bm, bu, _, rfl, HHD.out.boxed HXRD.out _, HRD.out.boxed HXRD.out (.inr HNZ.out), HGE.out, (setRow_keep _ _ _).behind HBD.out HBD.out.size (fun q hq e => by omega)⟩
end Go.Proofs.YticnmmfiadpbbaaGreat.Sc
namespace Go.Proofs.YticnmmfiadpbbaaGreat.Sc
open Go Go.RowKit Go.ChangeShapes Go.WideShapes Go.ChangeAt
set_option maxRecDepth 100000

theorem run_eql_lt (w : World) (x y : Lt) : (binOp .eql 47 (.agg x.cells) (.agg y.cells)).run Tryz.prog w = .ok (.bool (LtEq x y)) w := by
  rw [run_eql_struct, run_equalIn_agg w 9999 _ _ _ ltStruct ltHeld]
  unfold Lt.cells
  go_simp
  unfold LtEq
  by_cases h0 : x.good.toList = y.good.toList <;> by_cases h1 : x.cnt = y.cnt <;> simp [h0, h1]
def nut (n : Int) : Lt := ⟨⟨#[110, 117, 116, 115]⟩, n⟩
def awR1 : ByteArray := ⟨#[114, 49]⟩
def awR2 : ByteArray := ⟨#[114, 50]⟩
def awR3 : ByteArray := ⟨#[114, 51]⟩
def awS : ByteArray := ⟨#[115]⟩
def aw0 : Hs := ⟨⟨#[115, 116, 111, 114, 101]⟩, [], []⟩
def aw1 : Hs := storeH aw0 awR1 awS 0 [nut 5]
def aw2 : Hs := partH aw1 awR1 awS [awR2, awR3] [[nut 2], [nut 3]]
def aw3 : Hs := outH aw2 awR2 awS [nut 3]
theorem aw_c1 : storeC aw0 awR1 awS 0 [nut 5] = 0 := by decide +kernel
theorem aw_c2 : partC aw1 awR1 awS [awR2, awR3] [[nut 2], [nut 3]] = 0 := by decide +kernel
theorem aw_c3 : outC aw2 awR2 awS [nut 3] = 10 := by decide +kernel
theorem aw_stock : stockL aw3 = [nut 5] := by rw [← sameL_iff]; decide +kernel
theorem aw_ok1 : HsOk 1 aw1 := (hsOk_nil _).store _ _ _ _
theorem aw_ok2 : HsOk 2 aw2 := aw_ok1.part _ _ _ _
theorem aw_ok3 : HsOk 3 aw3 := aw_ok2.out _ _ _
theorem nutRes : (Tryz.f13).results = #[.cell 2 47] := by kernel_rfl
theorem nut_any (n : Int) (w : World) : Calls Tryz.prog 13 #[.int .i64 n] w (fun e w' => e = .returned (.agg #[.string ⟨#[110, 117, 116, 115]⟩, .int .i64 n]) ∧ Below w.heap.size w w') := by
  have HX := Lib.hid (heap_alloc_new w (.cells #[.string ⟨#[110, 117, 116, 115]⟩, .int .i64 n] 47))
  go_enter Tryz.func13, Tryz.ntmps13
  go_wp2_with fail
  ((try simp only [Exit.inBlock, Exit.then]); refine bodyPost_ret (results_cell_row nutRes _ _ w.heap.size _ _ (0, 0) _ rfl HX.out Tryz.underlying47 rfl (by kernel_rfl)) rfl ?_)
  exact ⟨rfl, one_below w _⟩
/-- A row of two laid cells, of one lot. -/
theorem lot_new (w : World) (n : Int) : Sl (w.alloc (.cells #[.string ⟨#[110, 117, 116, 115]⟩, .int .i64 n] 47)) 2 (.slice (some ⟨w.heap.size, 0, none⟩) 1 1) ([nut n].map Lt.row) := by
  have hx := heap_alloc_new w (.cells #[.string ⟨#[110, 117, 116, 115]⟩, .int .i64 n] 47)
  refine .inr ⟨w.heap.size, 0, 1, rfl, lt_blk hx, by simp, by decide, fun i r hr j u hu => ?_⟩
  match i, hr with
  | 0, hr =>
    obtain rfl : (nut n).row = r := by simpa using hr
    match j, hu with
    | 0, hu => exact (cell_blk hx _).trans (by simpa [nut, Lt.row] using hu)
    | 1, hu => exact (cell_blk hx _).trans (by simpa [nut, Lt.row] using hu)
    | m + 2, hu => simp [nut, Lt.row] at hu
  | m + 1, hr => simp at hr
theorem strs_new (w : World) (s t : ByteArray) : Sl (w.alloc (.cells #[.string s, .string t] 9)) 1 (.slice (some ⟨w.heap.size, 0, none⟩) 2 2) ([s, t].map stRow) := by
  have hx := heap_alloc_new w (.cells #[.string s, .string t] 9)
  refine .inr ⟨w.heap.size, 0, 2, rfl, lt_blk hx, by simp, by decide, fun i r hr j u hu => ?_⟩
  match i, hr with
  | 0, hr =>
    obtain rfl : stRow s = r := by simpa using hr
    match j, hu with
    | 0, hu => exact (cell_blk hx _).trans (by simpa [stRow] using hu)
    | m + 1, hu => simp [stRow] at hu
  | 1, hr =>
    obtain rfl : stRow t = r := by simpa using hr
    match j, hu with
    | 0, hu => exact (cell_blk hx _).trans (by simpa [stRow] using hu)
    | m + 1, hu => simp [stRow] at hu
  | m + 2, hr => simp at hr
theorem parts_new (w : World) (v1 v2 : Value) (l1 l2 : List Lt) (h1 : Sl w 2 v1 (l1.map Lt.row)) (h2 : Sl w 2 v2 (l2.map Lt.row)) : NpAt (w.alloc (.cells #[v1, v2] 32)) (.slice (some ⟨w.heap.size, 0, none⟩) 2 2) [(v1, l1), (v2, l2)] := by
  have hx := heap_alloc_new w (.cells #[v1, v2] 32)
  have hb := one_below w (.cells #[v1, v2] 32)
  refine ⟨.inr ⟨w.heap.size, 0, 2, rfl, lt_blk hx, by simp, by decide, fun i r hr j u hu => ?_⟩, fun q hq => ?_⟩
  · match i, hr with
    | 0, hr =>
      obtain rfl : [v1] = r := by simpa using hr
      match j, hu with
      | 0, hu => exact (cell_blk hx _).trans (by simpa using hu)
      | m + 1, hu => simp at hu
    | 1, hr =>
      obtain rfl : [v2] = r := by simpa using hr
      match j, hu with
      | 0, hu => exact (cell_blk hx _).trans (by simpa using hu)
      | m + 1, hu => simp at hu
    | m + 2, hr => simp at hr
  · simp only [List.mem_cons, List.not_mem_nil, or_false] at hq
    rcases hq with rfl | rfl
    · exact h1.below hb (Nat.le_refl _)
    · exact h2.below hb (Nat.le_refl _)
set_option maxHeartbeats 8000000 in
theorem awake_any (w : World) : Calls Tryz.prog 5 #[] w (RetB w true) := by
  have HNU := Lib.hid (fun W => nut_any 5 W)
  go_enter Tryz.func5, Tryz.ntmps5
  go_wp2_with fail
  refine (newH_any _ _).mono ?_
  rintro e w1 ⟨hb1, bh, bm, bu, rfl, hh1, g1, g2, g3⟩
  have HB := Lib.hid hb1
  have HH : Hid (Hsx w1 bh bm bu aw0) := Lib.hid hh1
  have HGE : Hid (w.heap.size ≤ bh ∧ w.heap.size ≤ bm ∧ w.heap.size ≤ bu) := Lib.hid ⟨g1, g2, g3⟩
  clear hb1 hh1 g1 g2 g3
  go_wp2_with fail
  refine (nut_any 5 _).mono ?_
  rintro e w2 ⟨rfl, hb2⟩
  have HB := Lib.hid (HB.out.trans (hb2.mono HB.out.size))
  have HH := Lib.hid (HH.out.below hb2)
  clear hb2
  go_wp2_with fail
  have hba := one_below w2 (.cells #[.string ⟨#[110, 117, 116, 115]⟩, .int .i64 5] 47)
  refine (storeH_any awR1 awS 0 [nut 5] _ _ (HH.out.below hba) (hsOk_nil _) (lot_new w2 5) (by simp [aw0])).mono ?_
  rintro e w3 ⟨rfl, hk3, hh3⟩
  rw [aw_c1]
  have HB := Lib.hid (hk3.behind (HB.out.trans (hba.mono HB.out.size)) (Nat.le_trans HB.out.size hba.size) (fun q hq e => by have := HGE.out; omega))
  have HH : Hid (Hsx w3 bh bm bu aw1) := Lib.hid hh3
  clear hba hk3 hh3
  go_wp2_with fail
  have hs1 := strs_new w3 awR2 awR3
  have hba := one_below w3 (.cells #[.string awR2, .string awR3] 9)
  refine (nut_any 2 _).mono ?_
  rintro e w4 ⟨rfl, hb4⟩
  have HSN := Lib.hid (Sl.below hs1 hb4 (Nat.le_refl _))
  have HB := Lib.hid (HB.out.trans ((hba.trans (hb4.mono hba.size)).mono HB.out.size))
  have HH := Lib.hid (HH.out.below (hba.trans (hb4.mono hba.size)))
  clear hs1 hba hb4
  go_wp2_with fail
  have hs1 := lot_new w4 2
  have hba := one_below w4 (.cells #[.string ⟨#[110, 117, 116, 115]⟩, .int .i64 2] 47)
  refine (nut_any 3 _).mono ?_
  rintro e w5 ⟨rfl, hb5⟩
  have HS2 := Lib.hid (Sl.below hs1 hb5 (Nat.le_refl _))
  have HSN := Lib.hid (Sl.below HSN.out (hba.trans (hb5.mono hba.size)) (Nat.le_refl _))
  have HB := Lib.hid (HB.out.trans ((hba.trans (hb5.mono hba.size)).mono HB.out.size))
  have HH := Lib.hid (HH.out.below (hba.trans (hb5.mono hba.size)))
  clear hs1 hba hb5
  go_wp2_with fail
  have hs3 := lot_new w5 3
  have hba := one_below w5 (.cells #[.string ⟨#[110, 117, 116, 115]⟩, .int .i64 3] 47)
  have hnp := parts_new (w5.alloc (.cells #[.string ⟨#[110, 117, 116, 115]⟩, .int .i64 3] 47)) (.slice (some ⟨w4.heap.size, 0, none⟩) 1 1) (.slice (some ⟨w5.heap.size, 0, none⟩) 1 1) [nut 2] [nut 3] (Sl.below HS2.out hba (Nat.le_refl _)) hs3
  have hbb := one_below (w5.alloc (.cells #[.string ⟨#[110, 117, 116, 115]⟩, .int .i64 3] 47)) (.cells #[.slice (some ⟨w4.heap.size, 0, none⟩) 1 1, .slice (some ⟨w5.heap.size, 0, none⟩) 1 1] 32)
  have hbc := hba.trans (hbb.mono hba.size)
  have hpt := partH_any awR1 awS [awR2, awR3] _ _ _ _ (HH.out.below hbc) aw_ok1 (Sl.below HSN.out hbc (Nat.le_refl _)) hnp (by simp) (by have := aw_ok1.ul; omega)
  rw [size_al] at hpt
  refine Calls.mono hpt ?_
  rintro e w6 ⟨rfl, hk6, hh6⟩
  have ec : partC aw1 awR1 awS [awR2, awR3] (npSnd [(Value.slice (some ⟨w4.heap.size, 0, none⟩) 1 1, [nut 2]), (Value.slice (some ⟨w5.heap.size, 0, none⟩) 1 1, [nut 3])]) = 0 := aw_c2
  rw [ec]
  have HB := Lib.hid (hk6.behind (HB.out.trans (hbc.mono HB.out.size)) (Nat.le_trans HB.out.size hbc.size) (fun q hq e => by have := HGE.out; omega))
  have HH : Hid (Hsx w6 bh bm bu aw2) := Lib.hid hh6
  clear hs3 hba hnp hbb hbc hpt hk6 hh6 ec HS2 HSN
  go_wp2_with fail
  refine (nut_any 3 _).mono ?_
  rintro e w7 ⟨rfl, hb7⟩
  have HB := Lib.hid (HB.out.trans (hb7.mono HB.out.size))
  have HH := Lib.hid (HH.out.below hb7)
  clear hb7
  go_wp2_with fail
  have hba := one_below w7 (.cells #[.string ⟨#[110, 117, 116, 115]⟩, .int .i64 3] 47)
  refine (outH_any awR2 awS [nut 3] _ _ (HH.out.below hba) aw_ok2 (lot_new w7 3)).mono ?_
  rintro e w8 ⟨rfl, hk8, hh8⟩
  rw [aw_c3]
  have HB := Lib.hid (hk8.behind (HB.out.trans (hba.mono HB.out.size)) (Nat.le_trans HB.out.size hba.size) (fun q hq e => by have := HGE.out; omega))
  have HH : Hid (Hsx w8 bh bm bu aw3) := Lib.hid hh8
  clear hba hk8 hh8
  go_wp2_with fail
  have hst := stockH_any w8 HH.out aw_ok3 (by have := allL_len aw_ok3; have := aw_ok3.len; omega) (by have := aw_ok3.len; omega)
  rw [aw_stock] at hst
  refine Calls.mono hst ?_
  rintro e w9 ⟨v, rfl, ho, hb9⟩
  have hs := own_lots (l := [nut 5]) ho rfl
  obtain ⟨asx, cs, ev⟩ := row_shape ho
  subst ev
  obtain ⟨bs, offs, rfl, -, hbs, hc⟩ := hs.at (i := 0) (by simp)
  have HBS := Lib.hid hbs
  have HC0 : Hid (w9.cell? ⟨bs, offs, none⟩ = some (.string ⟨#[110, 117, 116, 115]⟩)) := Lib.hid (by have := hc 0 (nut 5).row rfl 0 _ rfl; simpa [nut] using this)
  have HC1 : Hid (w9.cell? ⟨bs, offs + 1, none⟩ = some (.int .i64 5)) := Lib.hid (by have := hc 0 (nut 5).row rfl 1 _ rfl; simpa [nut] using this)
  have HB := Lib.hid (HB.out.trans (hb9.mono HB.out.size))
  clear hst ho hb9 hs hbs hc
  go_wp2_with fail
  refine Any.region_lit (fun
    | 0 => Any.val (.int .i64 0)
    | 1 => Any.val (.bool true)
    | 2 => Any.val (.bool true)
    | 3 => Any.val (.int .i64 0)
    | 4 => Any.val (.bool true)
    | 5 => Any.val (.bool true)
    | 6 => Any.val (.bool true)
    | 7 => Any.val (.int .i64 10)
    | 8 => Any.val (.bool true)
    | 9 => Any.val (.bool true)
    | 10 => Any.val (.bool true)
    | 11 => Any.val (.slice (some ⟨bs, offs, none⟩) 1 cs)
    | 12 => Any.val (.int .i64 1)
    | 13 => Any.val (.bool true)
    | 14 => Any.val (.bool true)
    | 15 => Any.val (.bool true)
    | 16 => Any.val (.slice (some ⟨bs, offs, none⟩) 1 cs)
    | 17 => Any.val (.pointer (some ⟨bs, offs, none⟩))
    | 18 => Any.val (.agg #[.string ⟨#[110, 117, 116, 115]⟩, .int .i64 5])
    | 19 => Any.val (.func (.func 13) #[] #[])
    | 20 => Any.val (.agg #[.string ⟨#[110, 117, 116, 115]⟩, .int .i64 5])
    | 21 => Any.val (.bool true)
    | 22 => Any.val (.bool true)
    | 23 => Any.val (.bool true)
    | _ => Any.idle) (by kernel_rfl) (by kernel_rfl) (by kernel_rfl) ?_ ?_ ?_
  · intro i _
    match i with
    | 0 => exact Any.lasts_val _
    | 1 => exact Any.lasts_val _
    | 2 => exact Any.lasts_val _
    | 3 => exact Any.lasts_val _
    | 4 => exact Any.lasts_val _
    | 5 => exact Any.lasts_val _
    | 6 => exact Any.lasts_val _
    | 7 => exact Any.lasts_val _
    | 8 => exact Any.lasts_val _
    | 9 => exact Any.lasts_val _
    | 10 => exact Any.lasts_val _
    | 11 => exact Any.lasts_val _
    | 12 => exact Any.lasts_val _
    | 13 => exact Any.lasts_val _
    | 14 => exact Any.lasts_val _
    | 15 => exact Any.lasts_val _
    | 16 => exact Any.lasts_val _
    | 17 => exact Any.lasts_val _
    | 18 => exact Any.lasts_val _
    | 19 => exact Any.lasts_val _
    | 20 => exact Any.lasts_val _
    | 21 => exact Any.lasts_val _
    | 22 => exact Any.lasts_val _
    | 23 => exact Any.lasts_val _
    | n + 24 => exact Any.lasts_idle
  · refine ⟨?_, ?_, ?_, ?_, ?_, ?_, ?_, ?_, ?_, ?_, ?_, ?_, ?_, ?_, ?_, ?_, ?_, ?_, ?_, ?_, ?_, ?_, ?_, ?_, trivial⟩
    · refine Any.owes_plain rfl fun ρ wo hs' hb hc' => ?_
      have h3 : ρ (.tmp 3) = .int .i64 0 := hs'.old' 3 (by kernel_rfl)
      exact Any.ok_move (Any.post_val hb rfl h3)
    · refine Any.owes_plain rfl fun ρ wo hs' hb hc' => ?_
      have h32 : ρ (.tmp 32) = .int .i64 0 := hs'.new' 32 0 (by kernel_rfl)
      go_simp
      exact Any.post_val hb rfl rfl
    · refine Any.owes_plain rfl fun ρ wo hs' hb hc' => ?_
      have h33 : ρ (.tmp 33) = .bool true := hs'.new' 33 1 (by kernel_rfl)
      exact Any.ok_move (Any.post_val hb rfl h33)
    · refine Any.owes_on rfl rfl (by kernel_rfl) rfl fun ρ wo hs' hb hc' => ?_
      have h4 : ρ (.tmp 4) = .int .i64 0 := hs'.old' 4 (by kernel_rfl)
      exact Any.ok_move (Any.post_val hb rfl h4)
    · refine Any.owes_on rfl rfl (by kernel_rfl) rfl fun ρ wo hs' hb hc' => ?_
      have h35 : ρ (.tmp 35) = .int .i64 0 := hs'.new' 35 3 (by kernel_rfl)
      go_simp
      exact Any.post_val hb rfl rfl
    · refine Any.owes_plain rfl fun ρ wo hs' hb hc' => ?_
      have h34 : ρ (.tmp 34) = .bool true := hs'.new' 34 2 (by kernel_rfl)
      have h36 : ρ (.tmp 36) = .bool true := hs'.new' 36 4 (by kernel_rfl)
      exact Any.ok_pick (b := true) h34 (Any.post_val hb rfl h36)
    · refine Any.owes_plain rfl fun ρ wo hs' hb hc' => ?_
      have h37 : ρ (.tmp 37) = .bool true := hs'.new' 37 5 (by kernel_rfl)
      exact Any.ok_move (Any.post_val hb rfl h37)
    · refine Any.owes_on rfl rfl (by kernel_rfl) rfl fun ρ wo hs' hb hc' => ?_
      have h5 : ρ (.tmp 5) = .int .i64 10 := hs'.old' 5 (by kernel_rfl)
      exact Any.ok_move (Any.post_val hb rfl h5)
    · refine Any.owes_on rfl rfl (by kernel_rfl) rfl fun ρ wo hs' hb hc' => ?_
      have h39 : ρ (.tmp 39) = .int .i64 10 := hs'.new' 39 7 (by kernel_rfl)
      go_simp
      exact Any.post_val hb rfl rfl
    · refine Any.owes_plain rfl fun ρ wo hs' hb hc' => ?_
      have h38 : ρ (.tmp 38) = .bool true := hs'.new' 38 6 (by kernel_rfl)
      have h40 : ρ (.tmp 40) = .bool true := hs'.new' 40 8 (by kernel_rfl)
      exact Any.ok_pick (b := true) h38 (Any.post_val hb rfl h40)
    · refine Any.owes_plain rfl fun ρ wo hs' hb hc' => ?_
      have h41 : ρ (.tmp 41) = .bool true := hs'.new' 41 9 (by kernel_rfl)
      exact Any.ok_move (Any.post_val hb rfl h41)
    · refine Any.owes_on rfl rfl (by kernel_rfl) rfl fun ρ wo hs' hb hc' => ?_
      have h6 : ρ (.tmp 6) = .slice (some ⟨bs, offs, none⟩) 1 cs := hs'.old' 6 (by kernel_rfl)
      exact Any.ok_move (Any.post_val hb rfl h6)
    · refine Any.owes_on rfl rfl (by kernel_rfl) rfl fun ρ wo hs' hb hc' => ?_
      have h43 : ρ (.tmp 43) = .slice (some ⟨bs, offs, none⟩) 1 cs := hs'.new' 43 11 (by kernel_rfl)
      go_simp
      exact Any.post_val hb rfl rfl
    · refine Any.owes_on rfl rfl (by kernel_rfl) rfl fun ρ wo hs' hb hc' => ?_
      have h44 : ρ (.tmp 44) = .int .i64 1 := hs'.new' 44 12 (by kernel_rfl)
      go_simp
      exact Any.post_val hb rfl rfl
    · refine Any.owes_plain rfl fun ρ wo hs' hb hc' => ?_
      have h42 : ρ (.tmp 42) = .bool true := hs'.new' 42 10 (by kernel_rfl)
      have h45 : ρ (.tmp 45) = .bool true := hs'.new' 45 13 (by kernel_rfl)
      exact Any.ok_pick (b := true) h42 (Any.post_val hb rfl h45)
    · refine Any.owes_plain rfl fun ρ wo hs' hb hc' => ?_
      have h46 : ρ (.tmp 46) = .bool true := hs'.new' 46 14 (by kernel_rfl)
      exact Any.ok_move (Any.post_val hb rfl h46)
    · refine Any.owes_on rfl rfl (by kernel_rfl) rfl fun ρ wo hs' hb hc' => ?_
      have h6 : ρ (.tmp 6) = .slice (some ⟨bs, offs, none⟩) 1 cs := hs'.old' 6 (by kernel_rfl)
      exact Any.ok_move (Any.post_val hb rfl h6)
    · refine Any.owes_on rfl rfl (by kernel_rfl) rfl fun ρ wo hs' hb hc' => ?_
      have h48 : ρ (.tmp 48) = .slice (some ⟨bs, offs, none⟩) 1 cs := hs'.new' 48 16 (by kernel_rfl)
      go_simp
      exact Any.post_val hb rfl rfl
    · refine Any.owes_on rfl rfl (by kernel_rfl) rfl fun ρ wo hs' hb hc' => ?_
      have h49 : ρ (.tmp 49) = .pointer (some ⟨bs, offs, none⟩) := hs'.new' 49 17 (by kernel_rfl)
      have y0 := ((below_undrew hb).cell (p := ⟨bs, offs, none⟩) HBS.out).trans HC0.out
      have y1 := ((below_undrew hb).cell (p := ⟨bs, offs + 1, none⟩) HBS.out).trans HC1.out
      go_simp
      exact Any.post_val hb rfl rfl
    · refine Any.owes_on rfl rfl (by kernel_rfl) rfl fun ρ wo hs' hb hc' => ?_
      have h2 : ρ (.tmp 2) = .func (.func 13) #[] #[] := hs'.old' 2 (by kernel_rfl)
      exact Any.ok_move (Any.post_val hb rfl h2)
    · refine Any.owes_on rfl rfl (by kernel_rfl) rfl fun ρ wo hs' hb hc' => ?_
      have h51 : ρ (.tmp 51) = .func (.func 13) #[] #[] := hs'.new' 51 19 (by kernel_rfl)
      go_simp
      exact (HNU.out wo).mono fun e w' ⟨he, hb'⟩ => ⟨_, he, Any.post_vals hb rfl rfl hb'⟩
    · refine Any.owes_on rfl rfl (by kernel_rfl) rfl fun ρ wo hs' hb hc' => ?_
      have h50 : ρ (.tmp 50) = .agg #[.string ⟨#[110, 117, 116, 115]⟩, .int .i64 5] := hs'.new' 50 18 (by kernel_rfl)
      have h52 : ρ (.tmp 52) = .agg #[.string ⟨#[110, 117, 116, 115]⟩, .int .i64 5] := hs'.new' 52 20 (by kernel_rfl)
      have qe := run_eql_lt wo (nut 5) (nut 5)
      rw [ltEq_yes rfl] at qe
      unfold nut Lt.cells at qe
      go_simp
      exact Any.post_val hb rfl rfl
    · refine Any.owes_plain rfl fun ρ wo hs' hb hc' => ?_
      have h47 : ρ (.tmp 47) = .bool true := hs'.new' 47 15 (by kernel_rfl)
      have h53 : ρ (.tmp 53) = .bool true := hs'.new' 53 21 (by kernel_rfl)
      exact Any.ok_pick (b := true) h47 (Any.post_val hb rfl h53)
    · refine Any.owes_plain rfl fun ρ wo hs' hb hc' => ?_
      have h54 : ρ (.tmp 54) = .bool true := hs'.new' 54 22 (by kernel_rfl)
      go_simp
      exact Any.post_val hb rfl rfl
  intro vals wz hb hk ha
  have h23 : vals 23 = .bool true := hk 23 (by kernel_rfl)
  have HBZ := Lib.hid hb
  clear hk ha hb
  simp only [Any.putAll]
  go_frame
  simp only [Nat.zero_add, Nat.reduceAdd]
  rw [h23]
  go_wp2_with fail
  go_ret
  exact retB rfl (HB.out.trans (HBZ.out.mono HB.out.size))
end Go.Proofs.YticnmmfiadpbbaaGreat.Sc
