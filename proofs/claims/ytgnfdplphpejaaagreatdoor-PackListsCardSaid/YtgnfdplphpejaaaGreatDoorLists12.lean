/- PackLists: the list of any boxes is the document's, and their content. -/
import Derived.Test.YtgnfdplphpejaaaGreatDoorLsD12
import Derived.Test.YtgnfdplphpejaaaGreatDoorAwPk12
namespace Go.Proofs.YtgnfdplphpejaaaGreatDoor.Sc
open Go Go.RowKit Go.ChangeShapes Go.WideShapes Go.ChangeAt Go.Deep
set_option maxRecDepth 100000

theorem lots_ofN {H : Type} {enc : TypeId × Value → H} {W : World} {base : Nat} {spare : Nat → Bool} {held : Bool} {fuel : Nat} {c : Value} {x : DataW H × List MemPlace}
    (h : DataW.trod enc Tryz.prog W base spare held fuel 23 [c] = some x) : ∃ l : List Lt, Sl W 2 c (l.map Lt.row) ∧ (∀ h ∈ l, h.fit) ∧ ∀ h ∈ l, (Lit.int .i64 h.cnt).wf = true := by
  have h1 := slice_one Tryz.underlying23 h
  rw [← h1] at h
  obtain ⟨rows, hs, _, hg⟩ := open_sl (sz := 2) (Good := fun cs => ∃ d : { d : Lt // d.fit ∧ (Lit.int .i64 d.cnt).wf = true }, cs = d.1.row) Tryz.underlying23 (by kernel_rfl) h1 h (fun n cs y hy => by
    obtain ⟨hl, m, hg⟩ := row_fields Tryz.underlying38 (by kernel_rfl) (by kernel_rfl) hy
    match cs, hl with
    | [c0, c1], _ =>
      obtain ⟨z0, g0⟩ := hg 0 _ rfl c0 rfl
      obtain ⟨s0, e0, _, f0⟩ := DataW.trod_string Tryz.underlying9 g0
      obtain rfl : c0 = .string s0 := by simpa using e0
      obtain ⟨z1, g1⟩ := hg 1 _ rfl c1 rfl
      obtain ⟨s1, e1, _, f1⟩ := DataW.trod_int Tryz.underlying3 g1
      obtain rfl : c1 = .int .i64 s1 := by simpa using e1
      exact ⟨⟨⟨s0, s1⟩, ⟨f0⟩, f1⟩, rfl⟩) (by decide)
  obtain ⟨l, rfl⟩ := choose_map (f := fun d : { d : Lt // d.fit ∧ (Lit.int .i64 d.cnt).wf = true } => d.1.row) rows hg
  refine ⟨l.map Subtype.val, by simpa [List.map_map, Function.comp_def] using hs, fun h hh => ?_, fun h hh => ?_⟩
  · obtain ⟨d, _, rfl⟩ := List.mem_map.1 hh
    exact d.2.1
  · obtain ⟨d, _, rfl⟩ := List.mem_map.1 hh
    exact d.2.2
theorem open_boxesN {H : Type} {enc : TypeId × Value → H} {W : World} {base : Nat} {v : Value} {d : DataW H} {p : List MemPlace} (hv : Value.okWide Tryz.prog W .any base 30 v)
    (h : DataW.Trod enc Tryz.prog W 0 (fun _ => true) true 30 v d p) : ∃ l : List Bv, BoxesAt W v l ∧ (∀ x ∈ l, x.fit) ∧ ∀ x ∈ l, ∀ y ∈ x.b.lots, (Lit.int .i64 y.cnt).wf = true := by
  obtain ⟨a, len, cap, rfl⟩ := okWide_slice Tryz.underlying30 hv
  obtain ⟨fuel, hf⟩ := h
  obtain ⟨rows, hs, _, hg⟩ := open_sl (sz := 3) (Good := fun cs => ∃ d : { d : Bv // Sl W 2 d.v (d.b.lots.map Lt.row) ∧ d.fit ∧ ∀ y ∈ d.b.lots, (Lit.int .i64 y.cnt).wf = true }, cs = d.1.cells) Tryz.underlying30 (by kernel_rfl) rfl hf (fun n cs y hy => by
    obtain ⟨hl, m, hg⟩ := row_fields Tryz.underlying45 (by kernel_rfl) (by kernel_rfl) hy
    match cs, hl with
    | [c0, c1, c2], _ =>
      obtain ⟨z0, g0⟩ := hg 0 _ rfl c0 rfl
      obtain ⟨z1, g1⟩ := hg 1 _ rfl c1 rfl
      obtain ⟨z2, g2⟩ := hg 2 _ rfl c2 rfl
      obtain ⟨s0, e0, _, f0⟩ := DataW.trod_string Tryz.underlying9 g0
      obtain rfl : c0 = .string s0 := by simpa using e0
      obtain ⟨s1, e1, _, f1⟩ := DataW.trod_int Tryz.underlying3 g1
      obtain rfl : c1 = .int .i64 s1 := by simpa using e1
      obtain ⟨l, h1, h2, h3⟩ := lots_ofN g2
      exact ⟨⟨⟨⟨s0, s1, l⟩, c2⟩, h1, ⟨f0, h2⟩, h3⟩, rfl⟩) (by decide)
  obtain ⟨l, rfl⟩ := choose_map (f := fun d : { d : Bv // Sl W 2 d.v (d.b.lots.map Lt.row) ∧ d.fit ∧ ∀ y ∈ d.b.lots, (Lit.int .i64 y.cnt).wf = true } => d.1.cells) rows hg
  refine ⟨l.map Subtype.val, ⟨by simpa [List.map_map, Function.comp_def] using hs, fun x hx => ?_⟩, fun x hx => ?_, fun x hx => ?_⟩
  · obtain ⟨d, _, rfl⟩ := List.mem_map.1 hx
    exact d.2.1
  · obtain ⟨d, _, rfl⟩ := List.mem_map.1 hx
    exact d.2.2.1
  · obtain ⟨d, _, rfl⟩ := List.mem_map.1 hx
    exact d.2.2.2
end Go.Proofs.YtgnfdplphpejaaaGreatDoor.Sc
namespace Go.Proofs.YtgnfdplphpejaaaGreatDoor.packLists
open Go.ChangeShapes Go.WideShapes Go.ChangeAt Go.RowKit Go Sc
set_option maxRecDepth 100000

theorem boxes_short {l : List Bv} (hf : BoxFew l) (hn : ∀ x ∈ l, ∀ y ∈ x.b.lots, (Lit.int .i64 y.cnt).wf = true) : BxShort l := ⟨hf, fun x hx y hy => by
  have h1 := hn x hx y hy
  have h2 := (hf.lots x hx).2.1
  simp only [Lit.wf, Bool.and_eq_true, decide_eq_true_eq] at h1
  have h3 := h2.cnt y hy
  exact ⟨h2.name y hy, h1.1, by omega⟩⟩
set_option maxHeartbeats 8000000 in
theorem walk (w : World) (hap : Lw w) (l : List Bv) (vb : Value) (hbs : BoxesAt w vb l) (hbf : ∀ x ∈ l, x.fit) (hn : ∀ x ∈ l, ∀ y ∈ x.b.lots, (Lit.int .i64 y.cnt).wf = true) :
    Calls Tryz.prog 7 #[vb] w (RetB w true) := by
  have HAW := Lib.hid (awake12_any w hap)
  have HAW2 := Lib.hid (fun W (hW : Below w.heap.size w W) => awake12_any W (hap.below hW))
  have HBX := Lib.hid (fun W (hW : Below w.heap.size w W) => boxes_any l vb W (hbs.below hW) hbf)
  have HAP := Lib.hid (fun W (hW : Below w.heap.size w W) => hap.below hW)
  have HBS := Lib.hid hbs
  have HN := Lib.hid hn
  clear hap hbs hbf hn
  go_enter Tryz.func7, Tryz.ntmps7
  go_wp2_with (first
    | ((with_reducible refine HAW.out.mono ?_); rintro e w1 ⟨rfl, hb1⟩; have HB := Lib.hid hb1; clear hb1)
    | fail)
  refine (HBX.out _ HB.out).mono ?_
  rintro e w3 ⟨b, rfl, hb, hb3⟩
  have HB := Lib.hid (HB.out.trans (hb3.mono HB.out.size))
  clear hb3
  cases b with
  | false =>
    clear hb
    go_wp2_with (first
      | ((with_reducible refine (HAW2.out _ HB.out).mono ?_); rintro e w1 ⟨rfl, hb1⟩; have HB := Lib.hid (HB.out.trans (hb1.mono HB.out.size)); clear hb1)
      | fail)
    go_ret
    exact ⟨rfl, HB.out⟩
  | true =>
  have HF := Lib.hid (boxes_short (hb rfl) HN.out)
  clear hb
  have HL1 := Lib.hid (list_any l vb w3 (HBS.out.below HB.out) HF.out (HAP.out _ HB.out).2)
  have HL2 := Lib.hid (fun W (hW : Below w.heap.size w W) => refList_any l vb W (HBS.out.below hW) HF.out)
  have HC1 := Lib.hid (fun W (hW : Below w.heap.size w W) => content_any l vb W (HBS.out.below hW) HF.out.few.few)
  have HC2 := Lib.hid (fun W (hW : Below w.heap.size w W) => refContent_any l vb W (HBS.out.below hW) HF.out.few.few)
  generalize txt (listT (l.map Bv.b)) = S at *
  generalize joinL (lotsV l) = J at *
  have ts : (S.toList == S.toList) = true := by simp
  go_wp2_with (first
    | ((with_reducible refine HL1.out.mono ?_); rintro e w4 ⟨rfl, hb4⟩; have HB := Lib.hid (HB.out.trans (hb4.mono HB.out.size)); clear hb4)
    | ((with_reducible refine (HL2.out _ HB.out).mono ?_); rintro e w5 ⟨rfl, hb5⟩; have HB5 := Lib.hid (HB.out.trans (hb5.mono HB.out.size)); clear hb5)
    | ((with_reducible refine (HC1.out _ HB5.out).mono ?_); rintro e w6 ⟨v6, rfl, ho6, hb6⟩; have HS6 := Lib.hid (own_lots ho6 rfl); have HB6 := Lib.hid (HB5.out.trans (hb6.mono HB5.out.size)); clear ho6 hb6)
    | ((with_reducible refine (HC2.out _ HB6.out).mono ?_); rintro e w7 ⟨v7, rfl, ho7, hb7⟩; have HS6 := Lib.hid (HS6.out.below hb7 (Nat.le_refl _)); have HS7 := Lib.hid (own_lots ho7 rfl); have HB7 := Lib.hid (HB6.out.trans (hb7.mono HB6.out.size)); clear ho7 hb7)
    | ((with_reducible refine (refSameL_any _ _ _ _ _ HS6.out HS7.out).mono ?_); rintro e w8 ⟨rfl, hb8⟩; have HB8 := Lib.hid (HB7.out.trans (hb8.mono HB7.out.size)); clear hb8)
    | fail)
  go_ret
  exact ⟨rfl, HB8.out⟩
theorem lifted (os : Os) (started : os.Started) (H : Type) (enc : TypeId × Value → H) :
    ReturnsInHanded {} Tryz.checked os 7 .any (fun w args => (Rows.packListsSpec.pre enc Tryz.prog Tryz.f7 [] false w args ∧ laidMetH Tryz.prog laidA w) ∧ sizedMet enc Tryz.prog Tryz.f7 (OpenSpec.ofChange Rows.packListsSpec) false w args) (Rows.packListsSpec.post enc Tryz.prog Tryz.f7 false true false false) := by
  refine law_liftedD os started (by kernel_rfl) Tryz.func7
    (ChangeSpec.witness_shaped (enc := enc) (C := Tryz.checked) (os := os) (X := fun w _ => laidMetH Tryz.prog laidA w) false (World.doorLaid Tryz.prog 400 os) #[.slice none 0 0] 8 rfl (World.shaped_of_RefB (by kernel_rfl) (by kernel_rfl)) (by kernel_rfl) (by kernel_rfl) (by kernel_rfl) (door_met os _))
    (by kernel_rfl) rfl rfl ?_ ?_
  · intro vs ds W p hA
    rw [Tryz.params7] at hA
    obtain ⟨v0, vs0, d0, ds0, p0, q0, rfl, rfl, rfl, h0, r0⟩ := trodAll_cons hA
    obtain ⟨rfl, rfl, rfl⟩ := trodAll_nil r0
    rfl
  · intro W base args ds p hap hval hA
    rw [Tryz.params7] at hA hval
    obtain ⟨v0, vs0, d0, ds0, p0, q0, hargs, rfl, rfl, h0, r0⟩ := trodAll_cons hA
    obtain ⟨rfl, rfl, rfl⟩ := trodAll_nil r0
    obtain rfl : args = #[v0] := by cases args; simp_all
    obtain ⟨l0, hs0, hf0, hn0⟩ := open_boxesN (hval 0 30 v0 rfl rfl) h0
    exact walk W hap l0 v0 hs0 hf0 hn0

theorem over : Rows.packListsRow.holds Tryz.pinned (OpenSpec.ofChange Rows.packListsSpec) :=
  OpenClaim.holds_of_wide 7 Tryz.f7 rfl rfl rfl rfl rfl rfl rfl ⟨rfl, rfl, rfl, rfl, rfl⟩ rfl rfl rfl rfl rfl (by kernel_rfl) Tryz.func7 (by kernel_rfl)
    (of_decide_eq_true (by kernel_rfl)) (by unfold Func.isWrapper; rw [if_neg (by decide +kernel)]; exact ⟨rfl, rfl⟩)
    (fun os started H enc _ => lifted os started H enc)

/-- The statement. -/
theorem proved : Rows.PackListsCardSaid :=
  Claim7.holds_tied_plain_at .later [] [.data, .data, .data, .data] true _ false
    over (fun _ h => by cases h) (by kernel_rfl) (fun _ h => by cases h) packLists_row_tie rfl ⟨rfl, rfl⟩ (by kernel_rfl) rfl
    (fun f fn hf hfn => by
      obtain rfl : f = 7 := Option.some.inj (hf.symm.trans (by kernel_rfl))
      obtain rfl : fn = Tryz.f7 := (Option.some.inj (Tryz.func7.symm.trans hfn)).symm
      exact ⟨by kernel_rfl, fun j t ht => by
        have hall : (Tryz.f7.params.toList.all fun u => !Tryz.prog.wantsStandIn u) = true := by kernel_rfl
        have hm : t ∈ Tryz.f7.params.toList := by simpa using Array.mem_of_getElem? ht
        exact (show Tryz.prog.wantsStandIn t = false by simpa using List.all_eq_true.1 hall t hm)⟩)
    (by kernel_rfl)
#print axioms proved
end Go.Proofs.YtgnfdplphpejaaaGreatDoor.packLists
