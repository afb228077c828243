/- A delay runs on, as the document says; the voyage that was handed in stays as it was. No condition. -/
import Derived.Test.YtbmjficiceiekaaDoorAwake16
import Derived.Test.YtbmjficiceiekaaDoorLawD16
import Derived.Test.YtbmjficiceiekaaDoorDel16
import Derived.Test.YtbmjficiceiekaaDoorRefDel16
import Derived.Test.YtbmjficiceiekaaDoorCop16
namespace Go.Proofs.YtbmjficiceiekaaDoor.Sc
open Go Go.RowKit Go.ChangeShapes Go.WideShapes Go.ChangeAt
set_option maxRecDepth 100000
theorem sl_new1 (W : World) (s : ByteArray) (v : Value) : Sl (W.alloc (.cells #[.string s, v] 32)) 2 (.slice (some ⟨W.heap.size, 0, none⟩) 1 1) [[.string s, v]] := by
  refine .inr ⟨W.heap.size, 0, 1, rfl, by simp, Nat.le_refl _, by decide, fun i r hr j u hu => ?_⟩
  rw [cell_new]
  match i, hr with
  | 0, hr => obtain rfl := (Option.some.inj hr).symm; match j, hu with
    | 0, hu => exact hu
    | 1, hu => exact hu
theorem copied_one (s : ByteArray) (v : Value) (l : List Cl) (W : World) (hs : Sl W 4 v (l.map Cl.row)) (hl : l.length ≤ 4000) : Calls Tryd.prog 12 #[.slice (some ⟨W.heap.size, 0, none⟩) 1 1] (W.alloc (.cells #[.string s, v] 32))
    (fun e w' => ∃ g cg u, e = .returned (.slice (some ⟨g, 0, none⟩) 1 cg) ∧ w'.cell? ⟨g, 0, none⟩ = some (.string s) ∧ w'.cell? ⟨g, 1, none⟩ = some u ∧ w'.ownsRow W.heap.size 39 4 u l.length (clCells l) ∧ Below W.heap.size W w') := by
  refine (copied_any [⟨s, v, l⟩] _ (W.alloc (.cells #[.string s, v] 32)) ⟨sl_new1 W s v, fun x hx => ?_⟩ (by simp) (fun x hx => ?_)).mono fun e w' h => ?_
  · obtain rfl := List.mem_singleton.1 hx
    exact hs.below (one_below _ _) (Nat.le_refl _)
  · obtain rfl := List.mem_singleton.1 hx
    exact hl
  · obtain ⟨v', m, rfl, hown, hvo, hst, hbel⟩ := h
    match m, hst with
    | [x], hst =>
      obtain ⟨sh, u, cs⟩ := x
      simp only [List.map_cons, List.map_nil, Vm.strip, List.cons.injEq, Prod.mk.injEq, and_true] at hst
      obtain ⟨rfl, rfl⟩ := hst
      obtain ⟨g, cap, cur, rfl, hh, hg⟩ := own_pos hown (by simp)
      have h0 := (own_read hown (j := 0) (by simp [vmCells, Vm.row, Vm.cells])).1
      have h1 := (own_read hown (j := 1) (by simp [vmCells, Vm.row, Vm.cells])).1
      exact ⟨g, cap, u, rfl, h0, h1, ownsRow_base (hvo _ (List.mem_singleton.2 rfl)) (by simp), below_then (one_below W _) hbel⟩
end Go.Proofs.YtbmjficiceiekaaDoor.Sc
namespace Go.Proofs.YtbmjficiceiekaaDoor.portDelays
open Go.ChangeShapes Go.WideShapes Go.ChangeAt Go.RowKit Go Sc
set_option maxRecDepth 100000

set_option maxHeartbeats 16000000 in
theorem walk (w : World) (hap : TabW w) (t : Vm) (hs0 : Sl w 4 t.val (t.calls.map Cl.row)) (hf0 : t.fit) (call : Int) (_ : (Lit.int .i64 call).wf = true) (days : Int) (_ : (Lit.int .i64 days).wf = true) :
    Calls Tryd.prog 7 #[.agg #[.string t.ship, t.val], .int .i64 call, .int .i64 days] w (RetB w true) := by
  obtain ⟨s, v, l⟩ := t
  obtain ⟨hm, hmc⟩ := hf0
  simp only at hs0 hm hmc ⊢
  obtain ⟨a, c, rfl⟩ : ∃ a c, v = .slice a l.length c := by simpa using hs0.shape
  have HS := Lib.hid hs0
  have HAW := Lib.hid (fun W (hW : Below w.heap.size w W) => awake_any W (hap.below hW))
  have HX := Lib.hid (heap_alloc_new w (.cells #[.string s, .slice a l.length c] 32))
  have HB := Lib.hid (one_below w (.cells #[.string s, .slice a l.length c] 32))
  have hll : l.length ≤ 9223372036854775807 := by have := hs0.len_le; simp only [List.length_map, maxLen] at this; omega
  have y0 := cell_blk HX.out 0
  have y1 := cell_blk HX.out 1
  have HMM := Lib.hid (And.intro hm hmc)
  clear hap hs0 hm hmc
  by_cases h70 : 70 < l.length
  · have t1 : decide ((70 : Int) < (l.length : Int)) = true := decide_eq_true (by omega)
    have t1' : decide (70 < l.length) = true := decide_eq_true h70
    clear h70
    go_enter Tryd.func7, Tryd.ntmps7
    go_wp2_with (first
      | ((with_reducible refine (HAW.out _ HB.out).mono ?_); rintro e wa ⟨rfl, hba⟩; have HB := Lib.hid (HB.out.trans (hba.mono HB.out.size)); have HX := Lib.hid (blk hba (lt_blk HX.out) HX.out); clear y0 y1; have y0 := cell_blk HX.out 0; have y1 := cell_blk HX.out 1; clear hba)
      | fail)
    go_ret
    exact ⟨rfl, HB.out⟩
  have t1 : decide ((70 : Int) < (l.length : Int)) = false := decide_eq_false (by omega)
  have t1' : decide (70 < l.length) = false := decide_eq_false h70
  have HL : Hid (l.length ≤ 4000) := Lib.hid (by omega)
  have HCO := Lib.hid (fun W (hW : Below w.heap.size w W) => copied_one s (.slice a l.length c) l W (HS.out.below hW (Nat.le_refl _)) HL.out)
  clear h70
  go_enter Tryd.func7, Tryd.ntmps7
  go_wp2_with (first
    | ((with_reducible refine (HAW.out _ HB.out).mono ?_); rintro e wa ⟨rfl, hba⟩; have HB := Lib.hid (HB.out.trans (hba.mono HB.out.size)); have HX := Lib.hid (blk hba (lt_blk HX.out) HX.out); clear y0 y1; have y0 := cell_blk HX.out 0; have y1 := cell_blk HX.out 1; clear hba)
    | ((with_reducible refine (HCO.out _ HB.out).mono ?_); rintro e w2 ⟨g, cg, u, rfl, z0, z1, ho2, hb2⟩; obtain ⟨au, cu, rfl⟩ := Ord.row_slice ho2
       have HO2 := Lib.hid (ownsRow_below ho2 (one_below w2 (.cells #[.string s, .slice au l.length cu] 32))); have HB := Lib.hid ((HB.out.trans (hb2.mono HB.out.size)).alloc (by have := hb2.size; have := HB.out.size; omega) (.cells #[.string s, .slice au l.length cu] 32))
       have H7 := Lib.hid (heap_alloc_new w2 (.cells #[.string s, .slice au l.length cu] 32)); have HX := Lib.hid (blk (one_below w2 (.cells #[.string s, .slice au l.length cu] 32)) (lt_blk (blk hb2 (lt_blk HX.out) HX.out)) (blk hb2 (lt_blk HX.out) HX.out))
       have HDL := Lib.hid (delay_any s (.slice au l.length cu) l call days _ (own_cls HO2.out rfl) HL.out); clear ho2 hb2 y0 y1)
    | ((with_reducible refine (HDL.out).mono ?_); rintro e w3 ⟨v3, rfl, ho3, hb3⟩; obtain ⟨a3, c3, rfl⟩ := Ord.row_slice ho3
       have HA3 := Lib.hid (one_below w3 (.cells #[.string s, .slice a3 (delayR s l call days).length c3] 32)); have HO3 := Lib.hid (ownsRow_below ho3 HA3.out); have H8 := Lib.hid (heap_alloc_new w3 (.cells #[.string s, .slice a3 (delayR s l call days).length c3] 32))
       have HB3 := Lib.hid (hb3.trans (HA3.out.mono hb3.size)); have HB := Lib.hid (HB.out.trans (HB3.out.mono HB.out.size)); have H7 := Lib.hid (blk HB3.out (lt_blk H7.out) H7.out); have HX := Lib.hid (blk HB3.out (lt_blk HX.out) HX.out); have HO2 := Lib.hid (ownsRow_below HO2.out HB3.out); clear ho3 hb3 HB3 HA3)
    | fail)
  obtain ⟨w4, hw4⟩ : ∃ w4, w4 = w3.alloc (.cells #[.string s, .slice a3 (delayR s l call days).length c3] 32) := ⟨_, rfl⟩
  rw [← hw4] at HO3 H8 HB H7 HX HO2 ⊢
  have HS3 := Lib.hid (fun W (hW : Below w4.heap.size w4 W) => (own_cls HO3.out rfl).below hW (Nat.le_refl _))
  have HSU := Lib.hid (fun W (hW : Below w4.heap.size w4 W) => (own_cls HO2.out rfl).below hW (Nat.le_refl _))
  have HSV := Lib.hid (fun W (hW : Below w4.heap.size w4 W) => HS.out.below (HB.out.trans (hW.mono HB.out.size)) (Nat.le_refl _))
  have HRD := Lib.hid (fun W (hW : Below w4.heap.size w4 W) => refDelay_any s (.slice a l.length c) l call days W (HSV.out W hW) HL.out HMM.out.1 HMM.out.2)
  clear hw4 z0 z1 t1 t1'
  refine Ord.region_lit (fun
    | 0 => Ord.val (.agg #[.string s, .slice a3 (delayR s l call days).length c3])
    | 1 => Ord.val (.agg #[.string s, .slice a l.length c])
    | 2 => Ord.val (.int .i64 call)
    | 3 => Ord.val (.int .i64 days)
    | 4 => Ord.built (fun s' => #[.string s, s']) 0 39 4 (delayR s l call days).length (clCells (delayR s l call days)) []
    | 5 => Ord.val (.bool true)
    | 6 => Ord.val (.bool true)
    | 7 => Ord.val (.agg #[.string s, .slice au l.length cu])
    | 8 => Ord.val (.agg #[.string s, .slice a l.length c])
    | 9 => Ord.val (.bool true)
    | 10 => Ord.val (.bool true)
    | 11 => Ord.val (.bool true)
    | _ => Ord.idle) (fun _ => False) (by kernel_rfl) (by kernel_rfl) (by kernel_rfl) ?_ ?_ ?_ ?_
  · intro i _
    match i with
    | 0 => exact Ord.lasts_val _
    | 1 => exact Ord.lasts_val _
    | 2 => exact Ord.lasts_val _
    | 3 => exact Ord.lasts_val _
    | 4 => exact Ord.lasts_built _ _ _ _ _ _ _
    | 5 => exact Ord.lasts_val _
    | 6 => exact Ord.lasts_val _
    | 7 => exact Ord.lasts_val _
    | 8 => exact Ord.lasts_val _
    | 9 => exact Ord.lasts_val _
    | 10 => exact Ord.lasts_val _
    | 11 => exact Ord.lasts_val _
    | n + 12 => exact Ord.lasts_idle
  · refine ⟨fun k b _ hh => ?_, fun k b _ hh => ?_, fun k k' b _ _ hne h1 h2 => ?_⟩
    · match k, hh with
      | 0, hh => exact hh.elim
      | 1, hh => exact hh.elim
      | 2, hh => exact hh.elim
      | 3, hh => exact hh.elim
      | 4, hh => exact hh.elim
      | 5, hh => exact hh.elim
      | 6, hh => exact hh.elim
      | 7, hh => exact hh.elim
      | 8, hh => exact hh.elim
      | 9, hh => exact hh.elim
      | 10, hh => exact hh.elim
      | 11, hh => exact hh.elim
      | m + 12, hh => exact hh.elim
    · match k, hh with
      | 0, hh => exact hh.elim
      | 1, hh => exact hh.elim
      | 2, hh => exact hh.elim
      | 3, hh => exact hh.elim
      | 4, hh => exact hh.elim
      | 5, hh => exact hh.elim
      | 6, hh => exact hh.elim
      | 7, hh => exact hh.elim
      | 8, hh => exact hh.elim
      | 9, hh => exact hh.elim
      | 10, hh => exact hh.elim
      | 11, hh => exact hh.elim
      | m + 12, hh => exact hh.elim
    · match k, h1 with
      | 0, hh => exact hh.elim
      | 1, hh => exact hh.elim
      | 2, hh => exact hh.elim
      | 3, hh => exact hh.elim
      | 4, hh => exact hh.elim
      | 5, hh => exact hh.elim
      | 6, hh => exact hh.elim
      | 7, hh => exact hh.elim
      | 8, hh => exact hh.elim
      | 9, hh => exact hh.elim
      | 10, hh => exact hh.elim
      | 11, hh => exact hh.elim
      | m + 12, hh => exact hh.elim
  · refine ⟨?_, ?_, ?_, ?_, ?_, ?_, ?_, ?_, ?_, ?_, ?_, ?_, trivial⟩
    · refine Ord.owes_plain rfl fun ρ Os wo hs' hb hc' => ?_
      have h8 : ρ (.tmp 8) = .pointer (some ⟨w3.heap.size, 0, none⟩) := hs'.old' 8 (by kernel_rfl)
      have c0 := cell_blk (blk (hb.undrew.below (Nat.le_refl _) (fun _ _ h => h)) (lt_blk H8.out) H8.out) 0
      have c1 := cell_blk (blk (hb.undrew.below (Nat.le_refl _) (fun _ _ h => h)) (lt_blk H8.out) H8.out) 1
      go_simp
      exact Ord.post_val rfl rfl
    · refine Ord.owes_plain rfl fun ρ Os wo hs' hb hc' => ?_
      have h3 : ρ (.tmp 3) = .pointer (some ⟨w.heap.size, 0, none⟩) := hs'.old' 3 (by kernel_rfl)
      have c0 := cell_blk (blk (hb.undrew.below (Nat.le_refl _) (fun _ _ h => h)) (lt_blk HX.out) HX.out) 0
      have c1 := cell_blk (blk (hb.undrew.below (Nat.le_refl _) (fun _ _ h => h)) (lt_blk HX.out) HX.out) 1
      go_simp
      exact Ord.post_val rfl rfl
    · refine Ord.owes_plain rfl fun ρ Os wo hs' hb hc' => ?_
      have h1 : ρ (.tmp 1) = .int .i64 call := hs'.old' 1 (by kernel_rfl)
      exact Any.ok_move (Ord.post_val rfl h1)
    · refine Ord.owes_plain rfl fun ρ Os wo hs' hb hc' => ?_
      have h2 : ρ (.tmp 2) = .int .i64 days := hs'.old' 2 (by kernel_rfl)
      exact Any.ok_move (Ord.post_val rfl h2)
    · refine Ord.owes_plain rfl fun ρ Os wo hs' hb hc' => ?_
      have h28 : ρ (.tmp 28) = .agg #[.string s, .slice a l.length c] := hs'.val' 28 1 (by kernel_rfl) rfl
      have h29 : ρ (.tmp 29) = .int .i64 call := hs'.val' 29 2 (by kernel_rfl) rfl
      have h30 : ρ (.tmp 30) = .int .i64 days := hs'.val' 30 3 (by kernel_rfl) rfl
      have hf := hs'.func 26
      go_simp
      exact (HRD.out wo (hb.undrew.below (Nat.le_refl _) (fun _ _ h => h))).mono fun e w' ⟨v', he, ho', hb'⟩ => ⟨_, he, Ord.post_new ⟨v', rfl, ownsRow_base ho' (Nat.zero_le _), fun _ => Iff.rfl⟩ hb' (fun b h => (ho'.lt b h).1)⟩
    · refine Ord.owes_plain rfl fun ρ Os wo hs' hb hc' => ?_
      have h27 : ρ (.tmp 27) = .agg #[.string s, .slice a3 (delayR s l call days).length c3] := hs'.val' 27 0 (by kernel_rfl) rfl
      have hf := hs'.func 15
      obtain ⟨-, u2, hv, hr1, hr2⟩ := hs'.new' 31 4 (by kernel_rfl)
      go_simp
      exact (refSame_any s s _ _ (delayR s l call days) (delayR s l call days) wo (HS3.out wo (hb.undrew.below (Nat.le_refl _) (fun _ _ h => h))) (own_cls hr1 rfl)).mono fun e w' ⟨he, hb'⟩ => ⟨_, he, Ord.post_vals rfl (by simp) hb'⟩
    · refine Ord.owes_plain rfl fun ρ Os wo hs' hb hc' => ?_
      have h32 : ρ (.tmp 32) = .bool true := hs'.val' 32 5 (by kernel_rfl) rfl
      exact Any.ok_move (Ord.post_val rfl h32)
    · refine Ord.owes_on rfl rfl (by kernel_rfl) rfl fun ρ Os wo hs' hb hc' => ?_
      have h7 : ρ (.tmp 7) = .pointer (some ⟨w2.heap.size, 0, none⟩) := hs'.old' 7 (by kernel_rfl)
      have c0 := cell_blk (blk (hb.undrew.below (Nat.le_refl _) (fun _ _ h => h)) (lt_blk H7.out) H7.out) 0
      have c1 := cell_blk (blk (hb.undrew.below (Nat.le_refl _) (fun _ _ h => h)) (lt_blk H7.out) H7.out) 1
      go_simp
      exact Ord.post_val rfl rfl
    · refine Ord.owes_on rfl rfl (by kernel_rfl) rfl fun ρ Os wo hs' hb hc' => ?_
      have h3 : ρ (.tmp 3) = .pointer (some ⟨w.heap.size, 0, none⟩) := hs'.old' 3 (by kernel_rfl)
      have c0 := cell_blk (blk (hb.undrew.below (Nat.le_refl _) (fun _ _ h => h)) (lt_blk HX.out) HX.out) 0
      have c1 := cell_blk (blk (hb.undrew.below (Nat.le_refl _) (fun _ _ h => h)) (lt_blk HX.out) HX.out) 1
      go_simp
      exact Ord.post_val rfl rfl
    · refine Ord.owes_on rfl rfl (by kernel_rfl) rfl fun ρ Os wo hs' hb hc' => ?_
      have h34 : ρ (.tmp 34) = .agg #[.string s, .slice au l.length cu] := hs'.val' 34 7 (by kernel_rfl) rfl
      have h35 : ρ (.tmp 35) = .agg #[.string s, .slice a l.length c] := hs'.val' 35 8 (by kernel_rfl) rfl
      have hf := hs'.func 15
      go_simp
      exact (refSame_any s s _ _ l l wo (HSU.out wo (hb.undrew.below (Nat.le_refl _) (fun _ _ h => h))) (HSV.out wo (hb.undrew.below (Nat.le_refl _) (fun _ _ h => h)))).mono fun e w' ⟨he, hb'⟩ => ⟨_, he, Ord.post_vals rfl (by simp) hb'⟩
    · refine Ord.owes_plain rfl fun ρ Os wo hs' hb hc' => ?_
      have h33 : ρ (.tmp 33) = .bool true := hs'.val' 33 6 (by kernel_rfl) rfl
      have h36 : ρ (.tmp 36) = .bool true := hs'.val' 36 9 (by kernel_rfl) rfl
      go_simp
      exact Ord.post_val rfl rfl
    · refine Ord.owes_plain rfl fun ρ Os wo hs' hb hc' => ?_
      have h37 : ρ (.tmp 37) = .bool true := hs'.val' 37 10 (by kernel_rfl) rfl
      exact Any.ok_assign (Ord.post_val rfl h37)
  intro vals Os ρs wz hk hkn hln hap hbd
  have h11 : vals 11 = .bool true := (hkn 11 (by kernel_rfl)).1
  have HBZ := Lib.hid (HB.out.trans ((hk.below (Nat.le_refl _) (fun _ _ h => h)).mono HB.out.size))
  clear hk hkn hln hap hbd
  simp only [Any.putAll]
  go_frame
  simp only [Nat.zero_add, Nat.reduceAdd]
  rw [h11]
  clear h11
  go_wp2_with fail
  go_ret
  exact ⟨rfl, HBZ.out⟩

theorem lifted (os : Os) (started : os.Started) (H : Type) (enc : TypeId × Value → H) :
    ReturnsInHanded {} Tryd.checked os 7 .any (fun w args => (Rows.portDelaysSpec.pre enc Tryd.prog Tryd.f7 [] false w args ∧ laidMetH Tryd.prog laidA w) ∧ sizedMet enc Tryd.prog Tryd.f7 (OpenSpec.ofChange Rows.portDelaysSpec) false w args) (Rows.portDelaysSpec.post enc Tryd.prog Tryd.f7 false true false false) := by
  refine law_liftedD os started (by kernel_rfl) Tryd.func7
    (ChangeSpec.witness_shaped (enc := enc) (C := Tryd.checked) (os := os) (X := fun w _ => laidMetH Tryd.prog laidA w) false (World.doorLaid Tryd.prog 400 os) #[.agg #[.string ⟨#[]⟩, .slice none 0 0], .int .i64 0, .int .i64 0] 8 rfl (World.shaped_of_RefB (by kernel_rfl) (by kernel_rfl)) (by kernel_rfl) (by kernel_rfl) (by kernel_rfl) (door_met os _))
    (by kernel_rfl) rfl rfl ?_ ?_
  · intro vs ds W p hA
    rw [Tryd.params7] at hA
    obtain ⟨v0, vs0, d0, ds0, p0, q0, rfl, rfl, rfl, h0, r0⟩ := trodAll_cons hA
    obtain ⟨v1, vs1, d1, ds1, p1, q1, rfl, rfl, rfl, h1, r1⟩ := trodAll_cons r0
    obtain ⟨v2, vs2, d2, ds2, p2, q2, rfl, rfl, rfl, h2, r2⟩ := trodAll_cons r1
    obtain ⟨rfl, rfl, rfl⟩ := trodAll_nil r2
    rfl
  · intro W base args ds p hap hval hA
    rw [Tryd.params7] at hA hval
    obtain ⟨v0, vs0, d0, ds0, p0, q0, hargs, rfl, rfl, h0, r0⟩ := trodAll_cons hA
    obtain ⟨v1, vs1, d1, ds1, p1, q1, rfl, rfl, rfl, h1, r1⟩ := trodAll_cons r0
    obtain ⟨v2, vs2, d2, ds2, p2, q2, rfl, rfl, rfl, h2, r2⟩ := trodAll_cons r1
    obtain ⟨rfl, rfl, rfl⟩ := trodAll_nil r2
    obtain rfl : args = #[v0, v1, v2] := by cases args; simp_all
    obtain ⟨t0, rfl, hs0, w0⟩ := open_voyage (hval 0 32 v0 rfl rfl) h0
    obtain ⟨a1, rfl, rfl, rfl, w1⟩ := open_int Tryd.underlying3 (hval 1 3 v1 rfl rfl) h1
    obtain ⟨a2, rfl, rfl, rfl, w2⟩ := open_int Tryd.underlying3 (hval 2 3 v2 rfl rfl) h2
    exact walk W hap t0 hs0 w0 a1 w1 a2 w2

theorem over : Rows.portDelaysRow.holds Tryd.pinned (OpenSpec.ofChange Rows.portDelaysSpec) :=
  OpenClaim.holds_of_wide 7 Tryd.f7 rfl rfl rfl rfl rfl rfl rfl ⟨rfl, rfl, rfl, rfl, rfl⟩ rfl rfl rfl rfl rfl (by kernel_rfl) Tryd.func7 (by kernel_rfl)
    (of_decide_eq_true (by kernel_rfl)) (by unfold Func.isWrapper; rw [if_neg (by decide +kernel)]; exact ⟨rfl, rfl⟩)
    (fun os started H enc _ => lifted os started H enc)

/-- The statement. -/
theorem proved : Rows.PortDelaysCardSaid :=
  Claim7.holds_tied_plain_at .later [] [.data, .data, .data] true _ true
    over (fun _ h => by cases h) (by kernel_rfl) (fun _ h => by cases h) portDelays_row_tie rfl ⟨rfl, rfl⟩ (by kernel_rfl) rfl
    (fun f fn hf hfn => by
      obtain rfl : f = 7 := Option.some.inj (hf.symm.trans (by kernel_rfl))
      obtain rfl : fn = Tryd.f7 := (Option.some.inj (Tryd.func7.symm.trans hfn)).symm
      exact ⟨by kernel_rfl, fun j t ht => by
        have hall : (Tryd.f7.params.toList.all fun u => !Tryd.prog.wantsStandIn u) = true := by kernel_rfl
        have hm : t ∈ Tryd.f7.params.toList := by simpa using Array.mem_of_getElem? ht
        exact (show Tryd.prog.wantsStandIn t = false by simpa using List.all_eq_true.1 hall t hm)⟩)
    (by kernel_rfl)
#print axioms proved
end Go.Proofs.YtbmjficiceiekaaDoor.portDelays
