/- THE SAME RIGHTS, THE SAME AWARD. -/
import Derived.Test.YtbigoifpfkdkjaaGreatRtPl4
import Derived.Test.YtbigoifpfkdkjaaGreatNetD4
import Derived.Test.YtbigoifpfkdkjaaGreatDisE4
import Derived.Test.YtbigoifpfkdkjaaGreatGrowB
import Derived.Deep.CutRange
namespace Go.Proofs.YtbigoifpfkdkjaaGreat.Ord
open Go Go.RowKit
section
variable {P : Program} {S : Nat → Spec} {Os : Nat → Nat → Prop} {ρ : Operand → Value} {w : World} {i : Nat}
theorem post_own1 {e : TypeId} {B sz : Nat} {cs : Array Value} (hB : B ≤ w.heap.size) (hsz : cs.size = sz) (hS : S i = own B e sz 1 cs.toList []) : Post S Os i ρ w (.slice (some ⟨w.heap.size, 0, none⟩) 1 1) (w.alloc (.cells cs e (0, 0))) :=
  post_new (O := fun b => b = w.heap.size) (by
    rw [hS]
    refine ⟨⟨by simp [hsz], .inr ⟨w.heap.size, 1, cs, rfl, hB, heap_alloc_new _ _, Nat.le_refl _, by decide, by rw [hsz, Nat.one_mul], by rw [Nat.one_mul, ← hsz]; exact List.take_length⟩⟩, fun b => ?_⟩
    simp only [Value.ownBlock, Option.some.injEq]
    exact eq_comm) (Sc.one_below _ _) (fun b hb => Nat.le_of_eq hb.symm)
end
end Go.Proofs.YtbigoifpfkdkjaaGreat.Ord
namespace Go.Proofs.YtbigoifpfkdkjaaGreat.Sc
open Go Go.RowKit Go.ChangeShapes Go.WideShapes Go.ChangeAt
set_option maxRecDepth 100000

structure Pg.fit4 (x : Pg) : Prop where
  a : x.thing.size ≤ maxLen
  b : x.debtor.size ≤ maxLen
  c : x.cred.size ≤ maxLen
/-- An argument that is a slice of these. -/
theorem open_pledges {H : Type} {enc : TypeId × Value → H} {W : World} {base : Nat} {v : Value} {d : DataW H} {p : List MemPlace} (hv : Value.okWide Tryz.prog W .any base 22 v)
    (h : DataW.Trod enc Tryz.prog W 0 (fun _ => true) true 22 v d p) : ∃ l : List Pg, Sl W 6 v (l.map Pg.row) ∧ ∀ h ∈ l, h.fit4 := by
  obtain ⟨a, len, cap, rfl⟩ := okWide_slice Tryz.underlying22 hv
  obtain ⟨fuel, hf⟩ := h
  obtain ⟨rows, hs, _, hg⟩ := open_sl (sz := 6) (Good := fun cs => ∃ d : { d : Pg // d.fit4 }, cs = d.1.row) Tryz.underlying22 (by kernel_rfl) rfl hf (fun n cs y hy => by
    obtain ⟨hl, m, hg⟩ := row_fields Tryz.underlying27 (by kernel_rfl) (by kernel_rfl) hy
    match cs, hl with
    | [c0, c1, c2, c3, c4, c5], _ =>
      obtain ⟨z0, g0⟩ := hg 0 _ rfl c0 rfl
      obtain ⟨s0, e0, _, f0⟩ := DataW.trod_string Tryz.underlying9 g0
      obtain rfl : c0 = .string s0 := by simpa using e0
      obtain ⟨z1, g1⟩ := hg 1 _ rfl c1 rfl
      obtain ⟨s1, e1, _, f1⟩ := DataW.trod_string Tryz.underlying9 g1
      obtain rfl : c1 = .string s1 := by simpa using e1
      obtain ⟨z2, g2⟩ := hg 2 _ rfl c2 rfl
      obtain ⟨s2, e2, _, f2⟩ := DataW.trod_string Tryz.underlying9 g2
      obtain rfl : c2 = .string s2 := by simpa using e2
      obtain ⟨z3, g3⟩ := hg 3 _ rfl c3 rfl
      obtain ⟨s3, e3, _, f3⟩ := DataW.trod_int Tryz.underlying3 g3
      obtain rfl : c3 = .int .i64 s3 := by simpa using e3
      obtain ⟨z4, g4⟩ := hg 4 _ rfl c4 rfl
      obtain ⟨s4, e4, _, f4⟩ := DataW.trod_int Tryz.underlying2 g4
      obtain rfl : c4 = .int .i64 s4 := by simpa using e4
      obtain ⟨z5, g5⟩ := hg 5 _ rfl c5 rfl
      obtain ⟨s5, e5, _⟩ := DataW.trod_bool Tryz.underlying4 g5
      obtain rfl : c5 = .bool s5 := by simpa using e5
      exact ⟨⟨⟨s0, s1, s2, s3, s4, s5⟩, ⟨f0, f1, f2⟩⟩, rfl⟩) (by decide)
  obtain ⟨l, rfl⟩ := choose_map (f := fun d : { d : Pg // d.fit4 } => d.1.row) rows hg
  refine ⟨l.map Subtype.val, by simpa [List.map_map, Function.comp_def] using hs, fun h hh => ?_⟩
  obtain ⟨d, _, rfl⟩ := List.mem_map.1 hh
  exact d.2
end Go.Proofs.YtbigoifpfkdkjaaGreat.Sc
namespace Go.Proofs.YtbigoifpfkdkjaaGreat.topRights
open Go.ChangeShapes Go.WideShapes Go.ChangeAt Go.RowKit Go Sc
set_option maxRecDepth 100000
theorem cell_ltD {w : World} {p : Addr} {v : Value} (h : w.cell? p = some v) : p.block < w.heap.size := World.block_lt_of_cell? w p h
def debtB : ByteArray := ⟨#[100, 101, 98, 116, 111, 114]⟩
set_option maxHeartbeats 32000000 in
theorem walk (w : World) (l : List Pg) (v : Value) (hs : Sl w 6 v (l.map Pg.row)) (hf : ∀ x ∈ l, x.fit4) : Calls Tryz.prog 3 #[v] w (RetB w true) := by
  obtain ⟨a0, c0, rfl⟩ : ∃ a c, v = .slice a l.length c := by simpa using hs.shape
  have HS := Lib.hid hs
  have HF := Lib.hid hf
  have HN := Lib.hid nets_any
  have HX := Lib.hid new4_any
  have hll : l.length ≤ maxLen := by simpa using hs.len_le
  clear hs hf
  by_cases hl6 : 6 < l.length
  · have t1 : decide ((6 : Int) < (l.length : Int)) = true := decide_eq_true (by omega)
    have t2 : decide (6 < l.length) = true := decide_eq_true hl6
    clear hll hl6
    go_enter Tryz.func3, Tryz.ntmps3
    go_upto_region 2 with (first
      | ((with_reducible refine (HN.out _).mono ?_); rintro e w1 ⟨rfl, hb1⟩; have HB1 := Lib.hid hb1; clear hb1)
      | fail)
    go_wp2_with (first
      | ((with_reducible refine (HN.out _).mono ?_); rintro e w2 ⟨rfl, hb2⟩; have HB2 := Lib.hid (HB1.out.trans (hb2.mono HB1.out.size)); clear hb2)
      | fail)
    go_ret
    exact retB rfl HB2.out
  have t1 : decide ((6 : Int) < (l.length : Int)) = false := decide_eq_false (by omega)
  have t2 : decide (6 < l.length) = false := decide_eq_false hl6
  have HL6 := Lib.hid hl6
  have hll6 : l.length ≤ 6 := by omega
  clear hl6 hll
  go_enter Tryz.func3, Tryz.ntmps3
  go_wp2_with (first
    | ((with_reducible refine (HN.out _).mono ?_); rintro e w1 ⟨rfl, hb1⟩; have HB1 := Lib.hid hb1; clear hb1)
    | ((with_reducible refine (HX.out _).mono ?_); rintro e w2 ⟨F, bk, bm, rfl, hx, hfk, hb2⟩; have HB2 := Lib.hid (HB1.out.trans (hb2.mono HB1.out.size)); have HL2 := Lib.hid hx; have HF2 : Hid (∀ k, F k → w.heap.size ≤ k) := Lib.hid (fun k hk => Nat.le_trans HB1.out.size (hfk k hk)); clear hb2 hx hfk)
    | fail)
  clear t1 t2
  go_loopw [5, 33] (fun _ i wr => ∃ (k : Nat) (F : Nat → Prop) (L : List Pg), k ≤ l.length ∧ i = .int .i64 k ∧ Lx wr F bk bm L ∧ (∀ q, F q → w.heap.size ≤ q) ∧ LnOk L ∧ (∀ x ∈ L, x.thing = thingB) ∧ L.length ≤ k ∧ Below w.heap.size w wr) (fun _ i _ => l.length - (intOf i).toNat)
  case atStart => exact ⟨0, F, [], Nat.zero_le _, rfl, HL2.out, HF2.out, lnOk_nil, by simp, Nat.le_refl _, HB2.out⟩
  case round =>
  clear HL2 HF2 HB2 HB1
  obtain ⟨k, F, L, hk, rfl, hlx, hfk, hok, hth, hLk, hbel⟩ := hrel
  have HLX := Lib.hid hlx
  have HFK := Lib.hid hfk
  have HOK := Lib.hid hok
  have HTH := Lib.hid hth
  have HLK := Lib.hid hLk
  have HBEL := Lib.hid hbel
  by_cases hlt : k < l.length
  · obtain ⟨b, off, rfl, hb, hp⟩ := pg_at HS.out hlt
    obtain ⟨d0, d1, d2, d3, d4, d5⟩ := hp.below hb hbel
    have hx := HF.out l[k] (List.getElem_mem hlt)
    have tk : ((k : Nat) : Int) < (l.length : Int) := by omega
    have HK := Lib.hid hlt
    generalize l[k] = x at *
    obtain ⟨x0, x1, x2, x3, x4, x5⟩ := x
    obtain ⟨f0, f1, f2⟩ := hx
    simp only at d0 d1 d2 d3 d4 d5 f0 f1 f2
    clear hb hp hlx hfk hok hth hLk hbel
    have HBA := Lib.hid (one_below wr (.cells #[.string ⟨#[116, 104, 105, 110, 103]⟩, .string ⟨#[100, 101, 98, 116, 111, 114]⟩, .string x2, .int .i64 x3, .int .i64 x4, .bool x5] 27))
    have HBB := Lib.hid (one_below wr (.cells #[.string x0, .string x1, .string x2, .int .i64 x3, .int .i64 x4, .bool x5] 27))
    have HP : Hid (Calls Tryz.prog 6 #[.pointer (some ⟨bk, 0, none⟩), .agg #[.string ⟨#[116, 104, 105, 110, 103]⟩, .string ⟨#[100, 101, 98, 116, 111, 114]⟩, .string x2, .int .i64 x3, .int .i64 x4, .bool x5]]
      (wr.alloc (.cells #[.string ⟨#[116, 104, 105, 110, 103]⟩, .string ⟨#[100, 101, 98, 116, 111, 114]⟩, .string x2, .int .i64 x3, .int .i64 x4, .bool x5] 27)) (LxP4 (wr.alloc (.cells #[.string ⟨#[116, 104, 105, 110, 103]⟩, .string ⟨#[100, 101, 98, 116, 111, 114]⟩, .string x2, .int .i64 x3, .int .i64 x4, .bool x5] 27)) F bk bm (pledgeL L ⟨thingB, debtB, x2, x3, x4, x5⟩))) :=
      Lib.hid (pledge4_any (HLX.out.below HBA.out) ⟨thingB, debtB, x2, x3, x4, x5⟩ (by have := HLK.out; have := HK.out; have := HL6.out; omega))
    have HPO := Lib.hid (pledgeL_ok HOK.out ⟨thingB, debtB, x2, x3, x4, x5⟩)
    have HPT : Hid ((∀ x ∈ pledgeL L ⟨thingB, debtB, x2, x3, x4, x5⟩, x.thing = thingB) ∧ (pledgeL L ⟨thingB, debtB, x2, x3, x4, x5⟩).length ≤ k + 1) := Lib.hid (by
      have h1 := HTH.out
      have h2 := HLK.out
      unfold pledgeL
      split
      · refine ⟨fun x hx => ?_, by simp; omega⟩
        rcases List.mem_append.1 hx with hx | hx
        · exact h1 x hx
        · obtain rfl := List.mem_singleton.1 hx
          rfl
      · exact ⟨h1, by omega⟩)
    generalize pledgeL L ⟨thingB, debtB, x2, x3, x4, x5⟩ = L2 at *
    by_cases hz : 200 < wrap64 (wrap64 ((x0.size : Int) + (x1.size : Int)) + (x2.size : Int))
    · have t1 : decide (200 < wrap64 (wrap64 ((x0.size : Int) + (x1.size : Int)) + (x2.size : Int))) = true := decide_eq_true hz
      clear hz
      go_wp2_with fail
      go_ret
      exact retB rfl (HBEL.out.trans (HBB.out.mono HBEL.out.size))
    · have t1 : decide (200 < wrap64 (wrap64 ((x0.size : Int) + (x1.size : Int)) + (x2.size : Int))) = false := decide_eq_false hz
      clear hz
      go_wp2_with (first
        | ((with_reducible refine HP.out.mono ?_); rintro e w5 ⟨F5, v5, rfl, hl5, hf5, hk5⟩; have HL5 := Lib.hid hl5; have HF5 : Hid (∀ q, F5 q → w.heap.size ≤ q) := Lib.hid (fun q hq => (hf5 q hq).elim (HFK.out q) (fun h => Nat.le_trans HBEL.out.size (Nat.le_trans HBA.out.size h))); have HB5 := Lib.hid (hk5.behind (HBEL.out.trans (HBA.out.mono HBEL.out.size)) (Nat.le_trans HBEL.out.size HBA.out.size) (fun q hq e => by have := HFK.out q e; omega)); clear hl5 hf5 hk5)
        | fail)
      go_roundw
      case rel => exact ⟨k + 1, F5, L2, by have := HK.out; omega, by go_num, HL5.out, HF5.out, HPO.out, HPT.out.1, HPT.out.2, HB5.out⟩
      case measure => (have := HK.out; simp [intOf]) <;> omega
  · have HL6B : Hid (L.length ≤ 6) := Lib.hid (by omega)
    have tk : ¬ (((k : Nat) : Int) < (l.length : Int)) := by omega
    obtain ⟨r, hr⟩ : ∃ r, r = rankOf (ofT L thingB) := ⟨_, rfl⟩
    have hofT : ofT L thingB = L := by
      unfold ofT
      rw [List.filter_eq_self]
      intro x hx
      exact decide_eq_true (HTH.out x hx)
    have HR6 : Hid (r.length ≤ 6) := Lib.hid (by rw [hr, rankOf_length, hofT]; exact HL6B.out)
    have HRR := Lib.hid hr
    have HRK : Hid (Calls Tryz.prog 7 #[.pointer (some ⟨bk, 0, none⟩), .string ⟨#[116, 104, 105, 110, 103]⟩] wr (RetRow wr 27 6 r.length (pgCells r))) := Lib.hid (by rw [hr]; exact rank4_any HLX.out thingB (by have := HL6B.out; omega))
    clear hr hofT hlx hfk hok hth hLk hbel hk hlt HL6 HLX HS HF HX
    go_wp2_with (first
      | ((with_reducible refine HRK.out.mono ?_); rintro e w5 ⟨v6, rfl, ho5, hb5⟩; have HO5 := Lib.hid (own_pgs ho5 rfl); have HB5 := Lib.hid (HBEL.out.trans (hb5.mono HBEL.out.size)); obtain ⟨a6, c6, rfl⟩ : ∃ a c, v6 = .slice a r.length c := own_shpA ho5; clear ho5 hb5)
      | fail)
    clear tk
    obtain ⟨i0, hi, hz, hsz, hby⟩ := info_parts infoClm
    have HI := Lib.hid (And.intro hi (And.intro hz (And.intro hsz hby)))
    clear hi hz hsz hby
    obtain ⟨B5, hB5⟩ : ∃ B, B = w5.heap.size := ⟨_, rfl⟩
    have HB5E := Lib.hid hB5
    have HB5L : Hid (w.heap.size ≤ B5) := Lib.hid (by rw [hB5]; exact HB5.out.size)
    have hrl : r.length ≤ 6 := HR6.out
    have HSTA : Hid (w5.ownsRow B5 33 5 (.slice none 0 0) 0 (clmCells ((r.take 0).map clmOf)) ∧ w5.ownsRow B5 33 5 (.slice none 0 0) 0 (clmCells ((r.take 0).map clmOf).reverse)) := Lib.hid ⟨⟨rfl, .inl ⟨rfl, rfl⟩⟩, ⟨rfl, .inl ⟨rfl, rfl⟩⟩⟩
    clear hB5 hll6
    go_loopw [7, 8, 9, 10, 11, 12, 59] (fun v7 v8 _ _ _ _ i wr => ∃ k : Nat, k ≤ r.length ∧ i = .int .i64 k ∧ wr.ownsRow B5 33 5 v7 k (clmCells ((r.take k).map clmOf)) ∧ wr.ownsRow B5 33 5 v8 k (clmCells ((r.take k).map clmOf).reverse) ∧ (∀ b, v7.ownBlock = some b → ¬ v8.ownBlock = some b) ∧ (∀ m (hm : m + 1 < r.length), m + 1 < k → r[m].held = false → r[m].day ≠ r[m + 1].day) ∧ Below B5 w5 wr) (fun _ _ _ _ _ _ i _ => r.length - (intOf i).toNat)
    case atStart => exact ⟨0, Nat.zero_le _, rfl, HSTA.out.1, HSTA.out.2, fun b h => (by cases h), fun m hm h => absurd h (by omega), by rw [HB5E.out]; exact Below.refl _ _⟩
    case round =>
    clear HSTA
    obtain ⟨k, hk, rfl, ho7, ho8, hne, htie, hbel⟩ := hrel
    have HR7 := Lib.hid ho7
    have HR8 := Lib.hid ho8
    have HNE := Lib.hid hne
    have HTIE := Lib.hid htie
    have HBE := Lib.hid hbel
    clear ho7 ho8 hne htie
    by_cases hlt : k < r.length
    · have HKR := Lib.hid hlt
      have hsl := HO5.out.below hbel (Nat.le_of_eq HB5E.out.symm)
      obtain ⟨b, off, rfl, hb, hp⟩ := pg_at hsl hlt
      obtain ⟨d0, d1, d2, d3, d4, d5⟩ := hp
      have HTK : Hid (r.take (k + 1) = r.take k ++ [r[k]]) := Lib.hid (List.take_succ_eq_append_getElem hlt)
      have tk : ((k : Nat) : Int) < (r.length : Int) := by omega
      have HPR : Hid (k = 0 ∨ ∃ (j : Nat) (pd : Int) (ph : Bool), k = j + 1 ∧ wr.cell? ⟨b, off + j * 6 + 3, none⟩ = some (.int .i64 pd) ∧ wr.cell? ⟨b, off + j * 6 + 5, none⟩ = some (.bool ph) ∧ (∀ hj : j < r.length, r[j].day = pd ∧ r[j].held = ph)) := Lib.hid (by
        cases k with
        | zero => exact .inl rfl
        | succ j =>
          obtain ⟨b', off', e, hb', hp'⟩ := pg_at hsl (show j < r.length by omega)
          simp only [Option.some.injEq, Addr.mk.injEq, and_true] at e
          obtain ⟨rfl, rfl⟩ := e
          exact .inr ⟨j, _, _, rfl, hp'.2.2.2.1, hp'.2.2.2.2.2, fun _ => ⟨rfl, rfl⟩⟩)
      have HTI : Hid (∀ T : Bool, (T = false → ∀ j, k = j + 1 → ∀ hj : j < r.length, r[j].held = false → r[j].day ≠ r[k].day) → T = false → ∀ m (hm : m + 1 < r.length), m + 1 < k + 1 → r[m].held = false → r[m].day ≠ r[m + 1].day) := Lib.hid (fun T h hT m hm h2 h3 => by
        rcases Nat.lt_or_ge (m + 1) k with h4 | h4
        · exact HTIE.out m hm h4 h3
        · have e : k = m + 1 := by omega
          have := h hT m e (by omega) h3
          simpa only [e] using this)
      generalize hx : r[k] = x at *
      obtain ⟨x0, x1, x2, x3, x4, x5⟩ := x
      simp only at d0 d1 d2 d3 d4 d5
      have HXE := Lib.hid hx
      clear hb hsl hbel hx
      obtain ⟨wa, hwa⟩ : ∃ X, wr.alloc (.cells #[.string x0, .string x1, .string x2, .int .i64 x3, .int .i64 x4, .bool x5] 27) = X := ⟨_, rfl⟩
      obtain ⟨bx, hbx⟩ : ∃ b, wr.heap.size = b := ⟨_, rfl⟩
      have HWA := Lib.hid hwa
      have HBXE := Lib.hid hbx
      have hba : Below wr.heap.size wr wa := hwa ▸ one_below wr _
      have hxb : wa.heap[bx]? = some (.cells #[.string x0, .string x1, .string x2, .int .i64 x3, .int .i64 x4, .bool x5] 27) := by rw [← hwa, ← hbx]; exact heap_alloc_new wr _
      have HXB := Lib.hid hxb
      have HA7 := Lib.hid (ownsRow_below HR7.out hba)
      have HA8 := Lib.hid (ownsRow_below HR8.out hba)
      have HBA := Lib.hid (HBE.out.trans (hba.mono (by rw [HB5E.out]; exact HBE.out.size)))
      have HT : Hid (∃ T : Bool, (T = false → ∀ j, k = j + 1 → ∀ hj : j < r.length, r[j].held = false → r[j].day ≠ x3) ∧ ((k = 0 ∧ T = false) ∨ ∃ (j : Nat) (pd : Int) (ph : Bool), k = j + 1 ∧ j < r.length ∧ wa.cell? ⟨b, off + j * 6 + 3, none⟩ = some (.int .i64 pd) ∧ wa.cell? ⟨b, off + j * 6 + 5, none⟩ = some (.bool ph) ∧ T = (!ph && decide (pd = x3)))) := Lib.hid (by
        rcases HPR.out with h0 | ⟨j, pd, ph, h1, h2, h3, h4⟩
        · exact ⟨false, fun _ j hj => by omega, .inl ⟨h0, rfl⟩⟩
        · have hjl : j < r.length := by have := HKR.out; omega
          obtain ⟨h5, h6⟩ := h4 hjl
          refine ⟨!ph && decide (pd = x3), fun hT j' hj' hl' hh => ?_, .inr ⟨j, pd, ph, h1, hjl, (hba.cell (cell_ltD h2)).trans h2, (hba.cell (cell_ltD h3)).trans h3, rfl⟩⟩
          obtain rfl : j' = j := by omega
          rw [hh] at h6
          rw [h5]
          subst h6
          simpa using hT)
      obtain ⟨T, hT1, hT2⟩ := HT.out
      have HTI2 := Lib.hid (HTI.out T hT1)
      have HT2 := Lib.hid hT2
      clear hT1 hT2 hwa hbx hba HT HPR HR7 HR8
      go_upto_region 19 with fail
      rw [HWA.out, HBXE.out]
      go_cut [85] from 64 to 85 (fun s wx => s = .bool T ∧ ∃ n, wx = wa.drewN n)
      case first =>
        have y3 := cell_blk hxb 3
        rcases HT2.out with ⟨rfl, rfl⟩ | ⟨j, pd, ph, hkj, hj, e3, e5, hT⟩
        · clear d0 d1 d2 d3 d4 d5
          go_wp2_with fail
          go_quiet (fail)
          go_wp2_with fail
          go_meet
          exact ⟨rfl, _, rfl⟩
        · have hw1 : IntKind.i64.wrap ((k : Int) - 1) = (j : Int) := by rw [IntWalk.i64_in _ (by omega)]; omega
          have hw2 : (k : Int) - 1 = (j : Int) := by omega
          have tk0 : decide (0 < (k : Int)) = true := decide_eq_true (by omega)
          have tk1 : decide (0 < k) = true := decide_eq_true (by omega)
          have tj : ((j : Nat) : Int) < (r.length : Int) := by omega
          have HTT := Lib.hid hT
          clear d0 d1 d2 d3 d4 d5 hkj hT
          cases ph
          · by_cases hd : pd = x3
            · have t1 : (pd == x3) = true := by simp [hd]
              have HD := Lib.hid hd
              clear hd
              go_wp2_with fail
              go_quiet (fail)
              go_wp2_with fail
              go_meet
              exact ⟨by rw [HTT.out, HD.out]; simp, _, rfl⟩
            · have t1 : (pd == x3) = false := by simp [hd]
              have HD := Lib.hid hd
              clear hd
              go_wp2_with fail
              go_quiet (fail)
              go_wp2_with fail
              go_meet
              exact ⟨by rw [HTT.out, decide_eq_false HD.out]; rfl, _, rfl⟩
          · go_wp2_with fail
            go_quiet (fail)
            go_wp2_with fail
            go_meet
            exact ⟨by rw [HTT.out]; rfl, _, rfl⟩
      obtain ⟨rfl, nq, rfl⟩ := hcut
      obtain ⟨wy, hwy⟩ : ∃ X, wa.drewN nq = X := ⟨_, rfl⟩
      rw [hwy]
      have hby := below_drewN (Below.refl wa.heap.size wa) nq
      rw [hwy] at hby
      have HY7 := Lib.hid (ownsRow_below HA7.out hby)
      have HY8 := Lib.hid (ownsRow_below HA8.out hby)
      have HBY := Lib.hid (HBA.out.trans (hby.mono (by rw [HB5E.out]; exact HBA.out.size)))
      have HBY5 : Hid (B5 ≤ wy.heap.size) := Lib.hid (by rw [HB5E.out]; exact HBY.out.size)
      have hxy := blk hby (lt_blk HXB.out) HXB.out
      have z2 := cell_blk hxy 2
      have z3 := cell_blk hxy 3
      have z4 := cell_blk hxy 4
      have z5 := cell_blk hxy 5
      have HLR : Hid (k + 1 ≤ maxLen ∧ (k + 1) * 56 ≤ 140737488355328 ∧ 1 + k ≤ maxLen ∧ (1 + k) * 56 ≤ 140737488355328) := Lib.hid (by have := HKR.out; simp only [maxLen]; omega)
      clear hwy hby hxb HXB HA7 HA8 HBA HT2 HWA HBXE d0 d1 d2 d3 d4 d5 hxy
      cases T
      · have HTI3 := Lib.hid (HTI2.out rfl)
        cases x5
        ·
          obtain ⟨bq, hbq⟩ : ∃ b, b = wy.heap.size := ⟨_, rfl⟩
          obtain ⟨wz, hwz⟩ : ∃ x, x = wy.alloc (.cells #[.string x2, .string ⟨#[116, 104, 105, 110, 103]⟩, .int .i64 3, .int .i64 x3, .int .i64 x4] 33 (0, 0)) := ⟨_, rfl⟩
          have HWZ := Lib.hid hwz
          have hby : Below wy.heap.size wy wz := hwz ▸ one_below _ _
          have HBQ : Hid (wz.heap[bq]? = some (.cells #[.string x2, .string ⟨#[116, 104, 105, 110, 103]⟩, .int .i64 3, .int .i64 x3, .int .i64 x4] 33 (0, 0))) := Lib.hid (by rw [hwz, hbq]; exact heap_alloc_new wy _)
          have HO7 := Lib.hid (ownsRow_below HY7.out hby)
          have HO8 := Lib.hid (ownsRow_below HY8.out hby)
          have HBZ := Lib.hid (HBY.out.trans (hby.mono HBY5.out))
          have HBZ5 : Hid (B5 ≤ wz.heap.size) := Lib.hid (Nat.le_trans HBY5.out hby.size)
          have HNQ : Hid (¬ u7.ownBlock = some bq) := Lib.hid (fun e => by have := (HY7.out.lt bq e).2; omega)
          have HSRC : Hid (∀ wo, Keep (fun b => u7.ownBlock = some b) wz wo → Src wo 5 u8 k (clmCells ((r.take k).map clmOf).reverse)) := Lib.hid (fun wo hk => by
            have h1 := ownsRow_keep HO8.out hk (fun b h2 h3 => HNE.out b h3 h2)
            have h2 := src_clms (own_clms h1 (by rw [List.length_reverse, List.length_map, List.length_take]; have := HKR.out; omega))
            rwa [List.length_reverse, List.length_map, List.length_take, Nat.min_eq_left (by have := HKR.out; omega)] at h2)
          clear hwz hby
          go_upto_region 25 with (first
            | (refine wpList_store_row (P := Tryz.prog) rfl 33 (.tmp 12) (.tmp 95) rfl wy.heap.size #[.string x2, .string ⟨#[116, 104, 105, 110, 103]⟩, .int .i64 3, .int .i64 x3, .int .i64 x4] rfl rfl _ _ (heap_alloc_new wy _) (by kernel_rfl) rfl (by simp [Value.oneCell']) ?_; rw [setRow_new4, ← HWZ.out, ← hbq])
            | fail)
          clear hbq
          refine Ord.region_lit (fun
            | 0 => Ord.val (u7)
            | 1 => Ord.val (.agg #[.string x2, .string ⟨#[116, 104, 105, 110, 103]⟩, .int .i64 3, .int .i64 x3, .int .i64 x4])
            | 2 => Ord.one 33 #[.string x2, .string ⟨#[116, 104, 105, 110, 103]⟩, .int .i64 3, .int .i64 x3, .int .i64 x4]
            | 3 => Ord.grownB B5 33 5 (k + 1) (clmCells ((r.take k).map clmOf) ++ (#[.string x2, .string ⟨#[116, 104, 105, 110, 103]⟩, .int .i64 3, .int .i64 x3, .int .i64 x4] : Array Value).toList) 2 u7
            | 4 => Ord.val (.agg #[.string x2, .string ⟨#[116, 104, 105, 110, 103]⟩, .int .i64 3, .int .i64 x3, .int .i64 x4])
            | 5 => Ord.own B5 33 5 1 (#[.string x2, .string ⟨#[116, 104, 105, 110, 103]⟩, .int .i64 3, .int .i64 x3, .int .i64 x4] : Array Value).toList []
            | 6 => Ord.val (u8)
            | 7 => Ord.own B5 33 5 (1 + k) ((#[.string x2, .string ⟨#[116, 104, 105, 110, 103]⟩, .int .i64 3, .int .i64 x3, .int .i64 x4] : Array Value).toList ++ clmCells ((r.take k).map clmOf).reverse) [5]
            | 8 => Ord.own B5 33 5 (k + 1) (clmCells ((r.take k).map clmOf) ++ (#[.string x2, .string ⟨#[116, 104, 105, 110, 103]⟩, .int .i64 3, .int .i64 x3, .int .i64 x4] : Array Value).toList) [3]
            | 9 => Ord.own B5 33 5 (1 + k) ((#[.string x2, .string ⟨#[116, 104, 105, 110, 103]⟩, .int .i64 3, .int .i64 x3, .int .i64 x4] : Array Value).toList ++ clmCells ((r.take k).map clmOf).reverse) [7]
            | _ => Ord.idle) (fun b => u7.ownBlock = some b) (by kernel_rfl) (by kernel_rfl) (by kernel_rfl) ?_ ?_ ?_ ?_
          · intro i _
            match i with
            | 0 => exact Ord.lasts_val _
            | 1 => exact Ord.lasts_val _
            | 2 => exact Ord.lasts_one _ _
            | 3 => exact Ord.lasts_grownB _ _ _ _ _ _ _
            | 4 => exact Ord.lasts_val _
            | 5 => exact Ord.lasts_own _ _ _ _ _ _
            | 6 => exact Ord.lasts_val _
            | 7 => exact Ord.lasts_own _ _ _ _ _ _
            | 8 => exact Ord.lasts_own _ _ _ _ _ _
            | 9 => exact Ord.lasts_own _ _ _ _ _ _
            | n + 10 => exact Ord.lasts_idle
          · refine ⟨fun k b _ hh => ?_, fun k b _ hh => ?_, fun k k' b _ _ hne h1 h2 => ?_⟩
            · match k, hh with
              | 0, hh => exact hh.elim
              | 1, hh => exact hh.elim
              | 2, hh => exact hh.elim
              | 3, hh => exact hh
              | 4, hh => exact hh.elim
              | 5, hh => exact hh.elim
              | 6, hh => exact hh.elim
              | 7, hh => exact hh.elim
              | 8, hh => exact hh.elim
              | 9, hh => exact hh.elim
              | m + 10, hh => exact hh.elim
            · match k, hh with
              | 0, hh => exact hh.elim
              | 1, hh => exact hh.elim
              | 2, hh => exact hh.elim
              | 3, hh => exact (HO7.out.lt _ hh).2
              | 4, hh => exact hh.elim
              | 5, hh => exact hh.elim
              | 6, hh => exact hh.elim
              | 7, hh => exact hh.elim
              | 8, hh => exact hh.elim
              | 9, hh => exact hh.elim
              | m + 10, hh => exact hh.elim
            · have a : (k = 3 ∧ (fun b => u7.ownBlock = some b) b) := by
                match k, h1 with
                | 0, hh => exact hh.elim
                | 1, hh => exact hh.elim
                | 2, hh => exact hh.elim
                | 3, hh => exact ⟨rfl, hh⟩
                | 4, hh => exact hh.elim
                | 5, hh => exact hh.elim
                | 6, hh => exact hh.elim
                | 7, hh => exact hh.elim
                | 8, hh => exact hh.elim
                | 9, hh => exact hh.elim
                | m + 10, hh => exact hh.elim
              have a' : (k' = 3 ∧ (fun b => u7.ownBlock = some b) b) := by
                match k', h2 with
                | 0, hh => exact hh.elim
                | 1, hh => exact hh.elim
                | 2, hh => exact hh.elim
                | 3, hh => exact ⟨rfl, hh⟩
                | 4, hh => exact hh.elim
                | 5, hh => exact hh.elim
                | 6, hh => exact hh.elim
                | 7, hh => exact hh.elim
                | 8, hh => exact hh.elim
                | 9, hh => exact hh.elim
                | m + 10, hh => exact hh.elim
              rcases a with ⟨rfl, a⟩ <;> rcases a' with ⟨rfl, a'⟩
              all_goals first | exact absurd rfl hne | (exact hne rfl)
          · refine ⟨?_, ?_, ?_, ?_, ?_, ?_, ?_, ?_, ?_, ?_, trivial⟩
            · refine Ord.owes_plain rfl fun ρ Os wo hs' hb hc' => ?_
              have h7 : ρ (.tmp 7) = u7 := hs'.old' 7 (by kernel_rfl)
              exact Any.ok_move (Ord.post_val rfl h7)
            · refine Ord.owes_plain rfl fun ρ Os wo hs' hb hc' => ?_
              have h12 : ρ (.tmp 12) = .pointer (some ⟨bq, 0, none⟩) := hs'.old' 12 (by kernel_rfl)
              have c0 : wo.cell? ⟨bq, 0, none⟩ = some (.string x2) := cell_blk (hb.undrew.blk HBQ.out HNQ.out) 0
              have c1 : wo.cell? ⟨bq, 1, none⟩ = some (.string ⟨#[116, 104, 105, 110, 103]⟩) := cell_blk (hb.undrew.blk HBQ.out HNQ.out) 1
              have c2 : wo.cell? ⟨bq, 2, none⟩ = some (.int .i64 3) := cell_blk (hb.undrew.blk HBQ.out HNQ.out) 2
              have c3 : wo.cell? ⟨bq, 3, none⟩ = some (.int .i64 x3) := cell_blk (hb.undrew.blk HBQ.out HNQ.out) 3
              have c4 : wo.cell? ⟨bq, 4, none⟩ = some (.int .i64 x4) := cell_blk (hb.undrew.blk HBQ.out HNQ.out) 4
              go_simp
              exact Ord.post_val rfl rfl
            · refine Ord.owes_plain rfl fun ρ Os wo hs' hb hc' => ?_
              have h97 : ρ (.tmp 97) = .agg #[.string x2, .string ⟨#[116, 104, 105, 110, 103]⟩, .int .i64 3, .int .i64 x3, .int .i64 x4] := hs'.val' 97 1 (by kernel_rfl) rfl
              go_simp
              exact Ord.post_one rfl
            · refine Ord.owes_plain rfl fun ρ Os wo hs' hb hc' => ?_
              have h96 : ρ (.tmp 96) = u7 := hs'.val' 96 0 (by kernel_rfl) rfl
              exact Ord.ok_grownB Tryz.underlying31 HI.out.1 HI.out.2.1 HI.out.2.2.1 HI.out.2.2.2 rfl (by decide) h96 (hs'.new' 98 2 (by kernel_rfl)) HO7.out hs'.here rfl (by simp [Value.oneCell']) HLR.out.1 HLR.out.2.1 (Nat.le_trans HBZ5.out (show wz.heap.size ≤ wo.heap.size from hb.size)) rfl
            · refine Ord.owes_plain rfl fun ρ Os wo hs' hb hc' => ?_
              have h12 : ρ (.tmp 12) = .pointer (some ⟨bq, 0, none⟩) := hs'.old' 12 (by kernel_rfl)
              have c0 : wo.cell? ⟨bq, 0, none⟩ = some (.string x2) := cell_blk (hb.undrew.blk HBQ.out HNQ.out) 0
              have c1 : wo.cell? ⟨bq, 1, none⟩ = some (.string ⟨#[116, 104, 105, 110, 103]⟩) := cell_blk (hb.undrew.blk HBQ.out HNQ.out) 1
              have c2 : wo.cell? ⟨bq, 2, none⟩ = some (.int .i64 3) := cell_blk (hb.undrew.blk HBQ.out HNQ.out) 2
              have c3 : wo.cell? ⟨bq, 3, none⟩ = some (.int .i64 x3) := cell_blk (hb.undrew.blk HBQ.out HNQ.out) 3
              have c4 : wo.cell? ⟨bq, 4, none⟩ = some (.int .i64 x4) := cell_blk (hb.undrew.blk HBQ.out HNQ.out) 4
              go_simp
              exact Ord.post_val rfl rfl
            · refine Ord.owes_plain rfl fun ρ Os wo hs' hb hc' => ?_
              have h100 : ρ (.tmp 100) = .agg #[.string x2, .string ⟨#[116, 104, 105, 110, 103]⟩, .int .i64 3, .int .i64 x3, .int .i64 x4] := hs'.val' 100 4 (by kernel_rfl) rfl
              go_simp
              exact Ord.post_own1 (Nat.le_trans HBZ5.out (show wz.heap.size ≤ wo.heap.size from hb.size)) rfl rfl
            · refine Ord.owes_plain rfl fun ρ Os wo hs' hb hc' => ?_
              have h8 : ρ (.tmp 8) = u8 := hs'.old' 8 (by kernel_rfl)
              exact Any.ok_move (Ord.post_val rfl h8)
            · refine Ord.owes_plain rfl fun ρ Os wo hs' hb hc' => ?_
              have h102 : ρ (.tmp 102) = u8 := hs'.val' 102 6 (by kernel_rfl) rfl
              exact Ord.ok_own_append Tryz.underlying31 HI.out.1 HI.out.2.1 HI.out.2.2.1 HI.out.2.2.2 rfl (by decide) (hs'.new' 101 5 (by kernel_rfl)) (by rw [h102]; exact HSRC.out wo hb.undrew) (clmCells_one _) HLR.out.2.2.1 HLR.out.2.2.2 (Nat.le_trans HBZ5.out (show wz.heap.size ≤ wo.heap.size from hb.size)) List.mem_cons_self rfl
            · refine Ord.owes_plain rfl fun ρ Os wo hs' hb hc' => ?_
              obtain ⟨_, hr1, hr2⟩ := hs'.new' 99 3 (by kernel_rfl)
              exact Any.ok_assign (Ord.post_passB hr1 hr2 List.mem_cons_self rfl)
            · refine Ord.owes_plain rfl fun ρ Os wo hs' hb hc' => ?_
              obtain ⟨_, hr1, hr2⟩ := hs'.new' 103 7 (by kernel_rfl)
              exact Any.ok_assign (Ord.post_passB hr1 hr2 List.mem_cons_self rfl)
          · intro vals Os ρs wq hk hkn hln hap hbd
            obtain ⟨k7, kO7⟩ := hkn 8 (by kernel_rfl)
            obtain ⟨k8, kO8⟩ := hkn 9 (by kernel_rfl)
            have HAP : Hid (∀ b, (vals 8).ownBlock = some b → ¬ (vals 9).ownBlock = some b) := Lib.hid (fun b h1 h2 => hap 8 9 (by kernel_rfl) b ((kO7 b).2 h1) ((kO8 b).2 h2))
            have HK8 := Lib.hid hk
            have K7 := Lib.hid k7
            have K8 := Lib.hid k8
            clear hkn hln hap hbd hk k7 k8 kO7 kO8
            simp only [Any.putAll]
            go_frame
            generalize vals 8 = w7 at *
            generalize vals 9 = w8 at *
            go_wp2_with fail
            go_roundw
            case rel => exact ⟨k + 1, by have := HKR.out; omega, by go_num, by rw [HTK.out, List.map_append, clmCells_append]; exact K7.out, by rw [HTK.out, List.map_append, List.reverse_append, clmCells_append, Nat.add_comm k 1]; exact K8.out, HAP.out, HTI3.out, HK8.out.behind HBZ.out HBZ5.out (fun q hq e => by have := (HO7.out.lt q e).1; omega)⟩
            case measure => (have := HKR.out; simp [intOf]) <;> omega
        ·
          obtain ⟨bq, hbq⟩ : ∃ b, b = wy.heap.size := ⟨_, rfl⟩
          obtain ⟨wz, hwz⟩ : ∃ x, x = wy.alloc (.cells #[.string x2, .string ⟨#[116, 104, 105, 110, 103]⟩, .int .i64 2, .int .i64 x3, .int .i64 x4] 33 (0, 0)) := ⟨_, rfl⟩
          have HWZ := Lib.hid hwz
          have hby : Below wy.heap.size wy wz := hwz ▸ one_below _ _
          have HBQ : Hid (wz.heap[bq]? = some (.cells #[.string x2, .string ⟨#[116, 104, 105, 110, 103]⟩, .int .i64 2, .int .i64 x3, .int .i64 x4] 33 (0, 0))) := Lib.hid (by rw [hwz, hbq]; exact heap_alloc_new wy _)
          have HO7 := Lib.hid (ownsRow_below HY7.out hby)
          have HO8 := Lib.hid (ownsRow_below HY8.out hby)
          have HBZ := Lib.hid (HBY.out.trans (hby.mono HBY5.out))
          have HBZ5 : Hid (B5 ≤ wz.heap.size) := Lib.hid (Nat.le_trans HBY5.out hby.size)
          have HNQ : Hid (¬ u7.ownBlock = some bq) := Lib.hid (fun e => by have := (HY7.out.lt bq e).2; omega)
          have HSRC : Hid (∀ wo, Keep (fun b => u7.ownBlock = some b) wz wo → Src wo 5 u8 k (clmCells ((r.take k).map clmOf).reverse)) := Lib.hid (fun wo hk => by
            have h1 := ownsRow_keep HO8.out hk (fun b h2 h3 => HNE.out b h3 h2)
            have h2 := src_clms (own_clms h1 (by rw [List.length_reverse, List.length_map, List.length_take]; have := HKR.out; omega))
            rwa [List.length_reverse, List.length_map, List.length_take, Nat.min_eq_left (by have := HKR.out; omega)] at h2)
          clear hwz hby
          go_upto_region 25 with (first
            | (refine wpList_store_row (P := Tryz.prog) rfl 33 (.tmp 12) (.tmp 95) rfl wy.heap.size #[.string x2, .string ⟨#[116, 104, 105, 110, 103]⟩, .int .i64 2, .int .i64 x3, .int .i64 x4] rfl rfl _ _ (heap_alloc_new wy _) (by kernel_rfl) rfl (by simp [Value.oneCell']) ?_; rw [setRow_new4, ← HWZ.out, ← hbq])
            | fail)
          clear hbq
          refine Ord.region_lit (fun
            | 0 => Ord.val (u7)
            | 1 => Ord.val (.agg #[.string x2, .string ⟨#[116, 104, 105, 110, 103]⟩, .int .i64 2, .int .i64 x3, .int .i64 x4])
            | 2 => Ord.one 33 #[.string x2, .string ⟨#[116, 104, 105, 110, 103]⟩, .int .i64 2, .int .i64 x3, .int .i64 x4]
            | 3 => Ord.grownB B5 33 5 (k + 1) (clmCells ((r.take k).map clmOf) ++ (#[.string x2, .string ⟨#[116, 104, 105, 110, 103]⟩, .int .i64 2, .int .i64 x3, .int .i64 x4] : Array Value).toList) 2 u7
            | 4 => Ord.val (.agg #[.string x2, .string ⟨#[116, 104, 105, 110, 103]⟩, .int .i64 2, .int .i64 x3, .int .i64 x4])
            | 5 => Ord.own B5 33 5 1 (#[.string x2, .string ⟨#[116, 104, 105, 110, 103]⟩, .int .i64 2, .int .i64 x3, .int .i64 x4] : Array Value).toList []
            | 6 => Ord.val (u8)
            | 7 => Ord.own B5 33 5 (1 + k) ((#[.string x2, .string ⟨#[116, 104, 105, 110, 103]⟩, .int .i64 2, .int .i64 x3, .int .i64 x4] : Array Value).toList ++ clmCells ((r.take k).map clmOf).reverse) [5]
            | 8 => Ord.own B5 33 5 (k + 1) (clmCells ((r.take k).map clmOf) ++ (#[.string x2, .string ⟨#[116, 104, 105, 110, 103]⟩, .int .i64 2, .int .i64 x3, .int .i64 x4] : Array Value).toList) [3]
            | 9 => Ord.own B5 33 5 (1 + k) ((#[.string x2, .string ⟨#[116, 104, 105, 110, 103]⟩, .int .i64 2, .int .i64 x3, .int .i64 x4] : Array Value).toList ++ clmCells ((r.take k).map clmOf).reverse) [7]
            | _ => Ord.idle) (fun b => u7.ownBlock = some b) (by kernel_rfl) (by kernel_rfl) (by kernel_rfl) ?_ ?_ ?_ ?_
          · intro i _
            match i with
            | 0 => exact Ord.lasts_val _
            | 1 => exact Ord.lasts_val _
            | 2 => exact Ord.lasts_one _ _
            | 3 => exact Ord.lasts_grownB _ _ _ _ _ _ _
            | 4 => exact Ord.lasts_val _
            | 5 => exact Ord.lasts_own _ _ _ _ _ _
            | 6 => exact Ord.lasts_val _
            | 7 => exact Ord.lasts_own _ _ _ _ _ _
            | 8 => exact Ord.lasts_own _ _ _ _ _ _
            | 9 => exact Ord.lasts_own _ _ _ _ _ _
            | n + 10 => exact Ord.lasts_idle
          · refine ⟨fun k b _ hh => ?_, fun k b _ hh => ?_, fun k k' b _ _ hne h1 h2 => ?_⟩
            · match k, hh with
              | 0, hh => exact hh.elim
              | 1, hh => exact hh.elim
              | 2, hh => exact hh.elim
              | 3, hh => exact hh
              | 4, hh => exact hh.elim
              | 5, hh => exact hh.elim
              | 6, hh => exact hh.elim
              | 7, hh => exact hh.elim
              | 8, hh => exact hh.elim
              | 9, hh => exact hh.elim
              | m + 10, hh => exact hh.elim
            · match k, hh with
              | 0, hh => exact hh.elim
              | 1, hh => exact hh.elim
              | 2, hh => exact hh.elim
              | 3, hh => exact (HO7.out.lt _ hh).2
              | 4, hh => exact hh.elim
              | 5, hh => exact hh.elim
              | 6, hh => exact hh.elim
              | 7, hh => exact hh.elim
              | 8, hh => exact hh.elim
              | 9, hh => exact hh.elim
              | m + 10, hh => exact hh.elim
            · have a : (k = 3 ∧ (fun b => u7.ownBlock = some b) b) := by
                match k, h1 with
                | 0, hh => exact hh.elim
                | 1, hh => exact hh.elim
                | 2, hh => exact hh.elim
                | 3, hh => exact ⟨rfl, hh⟩
                | 4, hh => exact hh.elim
                | 5, hh => exact hh.elim
                | 6, hh => exact hh.elim
                | 7, hh => exact hh.elim
                | 8, hh => exact hh.elim
                | 9, hh => exact hh.elim
                | m + 10, hh => exact hh.elim
              have a' : (k' = 3 ∧ (fun b => u7.ownBlock = some b) b) := by
                match k', h2 with
                | 0, hh => exact hh.elim
                | 1, hh => exact hh.elim
                | 2, hh => exact hh.elim
                | 3, hh => exact ⟨rfl, hh⟩
                | 4, hh => exact hh.elim
                | 5, hh => exact hh.elim
                | 6, hh => exact hh.elim
                | 7, hh => exact hh.elim
                | 8, hh => exact hh.elim
                | 9, hh => exact hh.elim
                | m + 10, hh => exact hh.elim
              rcases a with ⟨rfl, a⟩ <;> rcases a' with ⟨rfl, a'⟩
              all_goals first | exact absurd rfl hne | (exact hne rfl)
          · refine ⟨?_, ?_, ?_, ?_, ?_, ?_, ?_, ?_, ?_, ?_, trivial⟩
            · refine Ord.owes_plain rfl fun ρ Os wo hs' hb hc' => ?_
              have h7 : ρ (.tmp 7) = u7 := hs'.old' 7 (by kernel_rfl)
              exact Any.ok_move (Ord.post_val rfl h7)
            · refine Ord.owes_plain rfl fun ρ Os wo hs' hb hc' => ?_
              have h12 : ρ (.tmp 12) = .pointer (some ⟨bq, 0, none⟩) := hs'.old' 12 (by kernel_rfl)
              have c0 : wo.cell? ⟨bq, 0, none⟩ = some (.string x2) := cell_blk (hb.undrew.blk HBQ.out HNQ.out) 0
              have c1 : wo.cell? ⟨bq, 1, none⟩ = some (.string ⟨#[116, 104, 105, 110, 103]⟩) := cell_blk (hb.undrew.blk HBQ.out HNQ.out) 1
              have c2 : wo.cell? ⟨bq, 2, none⟩ = some (.int .i64 2) := cell_blk (hb.undrew.blk HBQ.out HNQ.out) 2
              have c3 : wo.cell? ⟨bq, 3, none⟩ = some (.int .i64 x3) := cell_blk (hb.undrew.blk HBQ.out HNQ.out) 3
              have c4 : wo.cell? ⟨bq, 4, none⟩ = some (.int .i64 x4) := cell_blk (hb.undrew.blk HBQ.out HNQ.out) 4
              go_simp
              exact Ord.post_val rfl rfl
            · refine Ord.owes_plain rfl fun ρ Os wo hs' hb hc' => ?_
              have h97 : ρ (.tmp 97) = .agg #[.string x2, .string ⟨#[116, 104, 105, 110, 103]⟩, .int .i64 2, .int .i64 x3, .int .i64 x4] := hs'.val' 97 1 (by kernel_rfl) rfl
              go_simp
              exact Ord.post_one rfl
            · refine Ord.owes_plain rfl fun ρ Os wo hs' hb hc' => ?_
              have h96 : ρ (.tmp 96) = u7 := hs'.val' 96 0 (by kernel_rfl) rfl
              exact Ord.ok_grownB Tryz.underlying31 HI.out.1 HI.out.2.1 HI.out.2.2.1 HI.out.2.2.2 rfl (by decide) h96 (hs'.new' 98 2 (by kernel_rfl)) HO7.out hs'.here rfl (by simp [Value.oneCell']) HLR.out.1 HLR.out.2.1 (Nat.le_trans HBZ5.out (show wz.heap.size ≤ wo.heap.size from hb.size)) rfl
            · refine Ord.owes_plain rfl fun ρ Os wo hs' hb hc' => ?_
              have h12 : ρ (.tmp 12) = .pointer (some ⟨bq, 0, none⟩) := hs'.old' 12 (by kernel_rfl)
              have c0 : wo.cell? ⟨bq, 0, none⟩ = some (.string x2) := cell_blk (hb.undrew.blk HBQ.out HNQ.out) 0
              have c1 : wo.cell? ⟨bq, 1, none⟩ = some (.string ⟨#[116, 104, 105, 110, 103]⟩) := cell_blk (hb.undrew.blk HBQ.out HNQ.out) 1
              have c2 : wo.cell? ⟨bq, 2, none⟩ = some (.int .i64 2) := cell_blk (hb.undrew.blk HBQ.out HNQ.out) 2
              have c3 : wo.cell? ⟨bq, 3, none⟩ = some (.int .i64 x3) := cell_blk (hb.undrew.blk HBQ.out HNQ.out) 3
              have c4 : wo.cell? ⟨bq, 4, none⟩ = some (.int .i64 x4) := cell_blk (hb.undrew.blk HBQ.out HNQ.out) 4
              go_simp
              exact Ord.post_val rfl rfl
            · refine Ord.owes_plain rfl fun ρ Os wo hs' hb hc' => ?_
              have h100 : ρ (.tmp 100) = .agg #[.string x2, .string ⟨#[116, 104, 105, 110, 103]⟩, .int .i64 2, .int .i64 x3, .int .i64 x4] := hs'.val' 100 4 (by kernel_rfl) rfl
              go_simp
              exact Ord.post_own1 (Nat.le_trans HBZ5.out (show wz.heap.size ≤ wo.heap.size from hb.size)) rfl rfl
            · refine Ord.owes_plain rfl fun ρ Os wo hs' hb hc' => ?_
              have h8 : ρ (.tmp 8) = u8 := hs'.old' 8 (by kernel_rfl)
              exact Any.ok_move (Ord.post_val rfl h8)
            · refine Ord.owes_plain rfl fun ρ Os wo hs' hb hc' => ?_
              have h102 : ρ (.tmp 102) = u8 := hs'.val' 102 6 (by kernel_rfl) rfl
              exact Ord.ok_own_append Tryz.underlying31 HI.out.1 HI.out.2.1 HI.out.2.2.1 HI.out.2.2.2 rfl (by decide) (hs'.new' 101 5 (by kernel_rfl)) (by rw [h102]; exact HSRC.out wo hb.undrew) (clmCells_one _) HLR.out.2.2.1 HLR.out.2.2.2 (Nat.le_trans HBZ5.out (show wz.heap.size ≤ wo.heap.size from hb.size)) List.mem_cons_self rfl
            · refine Ord.owes_plain rfl fun ρ Os wo hs' hb hc' => ?_
              obtain ⟨_, hr1, hr2⟩ := hs'.new' 99 3 (by kernel_rfl)
              exact Any.ok_assign (Ord.post_passB hr1 hr2 List.mem_cons_self rfl)
            · refine Ord.owes_plain rfl fun ρ Os wo hs' hb hc' => ?_
              obtain ⟨_, hr1, hr2⟩ := hs'.new' 103 7 (by kernel_rfl)
              exact Any.ok_assign (Ord.post_passB hr1 hr2 List.mem_cons_self rfl)
          · intro vals Os ρs wq hk hkn hln hap hbd
            obtain ⟨k7, kO7⟩ := hkn 8 (by kernel_rfl)
            obtain ⟨k8, kO8⟩ := hkn 9 (by kernel_rfl)
            have HAP : Hid (∀ b, (vals 8).ownBlock = some b → ¬ (vals 9).ownBlock = some b) := Lib.hid (fun b h1 h2 => hap 8 9 (by kernel_rfl) b ((kO7 b).2 h1) ((kO8 b).2 h2))
            have HK8 := Lib.hid hk
            have K7 := Lib.hid k7
            have K8 := Lib.hid k8
            clear hkn hln hap hbd hk k7 k8 kO7 kO8
            simp only [Any.putAll]
            go_frame
            generalize vals 8 = w7 at *
            generalize vals 9 = w8 at *
            go_wp2_with fail
            go_roundw
            case rel => exact ⟨k + 1, by have := HKR.out; omega, by go_num, by rw [HTK.out, List.map_append, clmCells_append]; exact K7.out, by rw [HTK.out, List.map_append, List.reverse_append, clmCells_append, Nat.add_comm k 1]; exact K8.out, HAP.out, HTI3.out, HK8.out.behind HBZ.out HBZ5.out (fun q hq e => by have := (HO7.out.lt q e).1; omega)⟩
            case measure => (have := HKR.out; simp [intOf]) <;> omega
      · go_wp2_with fail
        go_ret
        exact retB rfl (HB5.out.trans (HBY.out.mono HB5L.out))
    · have ekr : k = r.length := by omega
      subst ekr
      have tk : ¬ ((((r.length : Nat)) : Int) < (r.length : Int)) := by omega
      have HAH : Hid (r.Pairwise Ahead) := Lib.hid (rank_ahead HOK.out thingB HRR.out (fun m hm h => HTIE.out m hm hm h))
      have hR := HR7.out
      have hR8 := HR8.out
      rw [List.take_length] at hR hR8
      have hc7 := own_clms hR (by simp)
      have hc8 := own_clms hR8 (by simp)
      have hok : ∀ x ∈ r.map clmOf, ClmOk x ∧ x.tg = thingB := by
        intro x hx
        obtain ⟨p, hp, rfl⟩ := List.mem_map.1 hx
        rw [HRR.out] at hp
        exact ⟨clmOf_ok HOK.out hp, rfl⟩
      have HBW : Hid (Below w.heap.size w wr) := Lib.hid (HB5.out.trans (HBE.out.mono HB5L.out))
      have HA := Lib.hid (award_any (r.map clmOf) _ wr hc7 (fun x hx => (hok x hx).1) (fun x hx => (hok x hx).2) (by simp; have := HR6.out; omega))
      have HAB := Lib.hid (fun W (h : Below wr.heap.size wr W) => award_any (r.map clmOf).reverse _ W (hc8.below h (Nat.le_refl _)) (fun x hx => (hok x (List.mem_reverse.1 hx)).1) (fun x hx => (hok x (List.mem_reverse.1 hx)).2) (by simp; have := HR6.out; omega))
      have HRT := Lib.hid (fun W u (h : Below wr.heap.size wr W) (hu : Sl W 2 u ((awdC (r.map clmOf).head?).map Awd.row)) => right_dis (r.map clmOf).reverse _ _ u W (hc8.below h (Nat.le_refl _)) hu (fun x hx => (hok x (List.mem_reverse.1 hx)).1) (fun x hx => (hok x (List.mem_reverse.1 hx)).2) (by simp; have := HR6.out; omega))
      have HRD := Lib.hid (fun W (h : Below wr.heap.size wr W) => rank_dis (r.map clmOf) _ W (hc8.below h (Nat.le_refl _)) (ranked_of HAH.out) (by simp; have := HR6.out; omega))
      rw [best_first HAH.out] at HA
      rw [best_last HAH.out] at HAB HRT
      rw [decide_eq_true rfl] at HRT
      rw [List.length_map] at HRD
      have HSL : Hid (Sl wr 6 (.slice a6 r.length c6) (r.map Pg.row)) := Lib.hid (HO5.out.below HBE.out (Nat.le_of_eq HB5E.out.symm))
      clear hbel hk hlt hR hR8 hc7 hc8 hok HR7 HR8 HNE HTIE HBE HOK HTH HLK HBEL HFK HI HB5 HB5L HB5E HRR HRK HN
      obtain ⟨o, ho⟩ : ∃ o, (r.map clmOf).head? = o := ⟨_, rfl⟩
      have HOE := Lib.hid ho
      rw [ho] at HA HAB HRT
      clear ho
      obtain ⟨na, hna⟩ : ∃ n, n = (awdC o).length := ⟨_, rfl⟩
      have HNA := Lib.hid hna
      clear hna
      go_upto_region 31 with (first
        | ((with_reducible refine HA.out.mono ?_); rintro e w6 ⟨vA, rfl, hoA, hb6⟩; have HB6 := Lib.hid hb6; rw [← HNA.out] at hoA; have HOA := Lib.hid (own_awds hoA HNA.out); obtain ⟨pA, cA, rfl⟩ : ∃ a c, vA = .slice a na c := own_shpA hoA; clear hoA hb6)
        | ((with_reducible refine (HAB.out _ HB6.out).mono ?_); rintro e w7 ⟨vB, rfl, hoB, hb7⟩; have HB7 := Lib.hid (HB6.out.trans (hb7.mono HB6.out.size)); rw [← HNA.out] at hoB; have HOB := Lib.hid (own_awds hoB HNA.out); have HOA7 := Lib.hid (HOA.out.below hb7 (Nat.le_refl _)); obtain ⟨pB, cB, rfl⟩ : ∃ a c, vB = .slice a na c := own_shpA hoB; clear hoB hb7)
        | ((with_reducible refine (HRT.out w7 _ HB7.out HOA7.out).mono ?_); rintro e w8 ⟨rfl, hb8⟩; have HB8 := Lib.hid (HB7.out.trans (hb8.mono HB7.out.size)); have HOA8 := Lib.hid (HOA7.out.below hb8 (Nat.le_refl _)); have HOB8 := Lib.hid (HOB.out.below hb8 (Nat.le_refl _)); clear hb8)
        | fail)
      by_cases hr0 : r = []
      · have e1 : r.length = 0 := by rw [hr0]; rfl
        have HO0 : Hid (o = none) := Lib.hid (by rw [← HOE.out, hr0]; rfl)
        have ena : na = 0 := by rw [HNA.out, HO0.out]; rfl
        have t1 : ((r.length : Int) == 0) = true := by rw [e1]; rfl
        have t2 : ((na : Int) == 0) = true := by rw [ena]; rfl
        have t3 : (r.length == 0) = true := by rw [e1]; rfl
        have t4 : (na == 0) = true := by rw [ena]; rfl
        clear e1 ena hr0 tk
        go_wp2_with fail
        go_ret
        exact retB rfl (HBW.out.trans (HB8.out.mono HBW.out.size))
      · obtain ⟨p0, rest, hr0⟩ : ∃ p0 rest, r = p0 :: rest := List.exists_cons_of_ne_nil hr0
        have hln : 0 < r.length := by rw [hr0]; simp
        have HR0 : Hid (r[0]'hln = p0) := Lib.hid (by simp [hr0])
        have HO1 : Hid (o = some (clmOf p0)) := Lib.hid (by rw [← HOE.out, hr0]; rfl)
        have ena : na = 1 := by rw [HNA.out, HO1.out]; rfl
        subst ena
        have t1 : ((r.length : Int) == 0) = false := by rw [beq_eq_false_iff_ne]; omega
        have t3 : (r.length == 0) = false := by rw [beq_eq_false_iff_ne]; omega
        clear hr0 rest
        go_wp2_with (first
          | ((with_reducible refine (HRD.out w8 HB8.out).mono ?_); rintro e w9 ⟨vR, rfl, hoR, hb9⟩; have HB9 := Lib.hid (HB8.out.trans (hb9.mono HB8.out.size)); have HOA9 := Lib.hid (HOA8.out.below hb9 (Nat.le_refl _)); have HOB9 := Lib.hid (HOB8.out.below hb9 (Nat.le_refl _)); have HRR9 := Lib.hid (own_clms hoR (by simp)); obtain ⟨pR, cR, rfl⟩ : ∃ a c, vR = .slice a r.length c := own_shpA hoR; clear hoR hb9)
          | fail)
        have HSL9 := Lib.hid (HSL.out.below HB9.out (Nat.le_refl _))
        have HBT := Lib.hid (HBW.out.trans (HB9.out.mono HBW.out.size))
        have HA1 : Hid (Sl w9 2 (.slice pA 1 cA) ([(⟨thingB, p0.cred⟩ : Awd)].map Awd.row)) := Lib.hid (by have := HOA9.out; rw [HO1.out] at this; exact this)
        have HB1 : Hid (Sl w9 2 (.slice pB 1 cB) ([(⟨thingB, p0.cred⟩ : Awd)].map Awd.row)) := Lib.hid (by have := HOB9.out; rw [HO1.out] at this; exact this)
        clear t1 t3 tk HSL HBW HB6 HB7 HB8 HB9 HOA HOB HOA7 HOA8 HOB8 HOA9 HOB9 HA HAB HRT HRD HO1 HNA HOE
        go_loopw [18, 19, 144] (fun _ _ i wr => ∃ k : Nat, k ≤ r.length ∧ i = .int .i64 k ∧ Below w9.heap.size w9 wr) (fun _ _ i _ => r.length - (intOf i).toNat)
        case atStart => exact ⟨0, Nat.zero_le _, rfl, Below.refl _ _⟩
        case round =>
        obtain ⟨k, hk, rfl, hbel⟩ := hrel
        have HBE := Lib.hid hbel
        by_cases hlt : k < r.length
        · obtain ⟨b, off, rfl, hb, hp⟩ := pg_at (HSL9.out.below hbel (Nat.le_refl _)) hlt
          obtain ⟨d0, d1, d2, d3, d4, d5⟩ := hp
          have hlm : k < (r.map clmOf).length := by simpa using hlt
          obtain ⟨b2, off2, rfl, hb2, hp2⟩ := clm_at (HRR9.out.below hbel (Nat.le_refl _)) hlm
          rw [List.getElem_map] at hp2
          have HK := Lib.hid hlt
          have tk : ((k : Nat) : Int) < (r.length : Int) := by omega
          generalize r[k] = x at *
          obtain ⟨x0, x1, x2, x3, x4, x5⟩ := x
          obtain ⟨q0, -⟩ := hp2
          simp only [clmOf] at d0 d1 d2 d3 d4 d5 q0
          obtain ⟨wa, hwa⟩ : ∃ X, wr.alloc (.cells #[.string x0, .string x1, .string x2, .int .i64 x3, .int .i64 x4, .bool x5] 27) = X := ⟨_, rfl⟩
          obtain ⟨bx, hbx⟩ : ∃ b, wr.heap.size = b := ⟨_, rfl⟩
          have HWA := Lib.hid hwa
          have HBXE := Lib.hid hbx
          have hba : Below wr.heap.size wr wa := hwa ▸ one_below wr _
          have hxb : wa.heap[bx]? = some (.cells #[.string x0, .string x1, .string x2, .int .i64 x3, .int .i64 x4, .bool x5] 27) := by rw [← hwa, ← hbx]; exact heap_alloc_new wr _
          have HBA := Lib.hid (HBE.out.trans (hba.mono HBE.out.size))
          have z2 := cell_blk hxb 2
          have q0' := (hba.cell (cell_ltD q0)).trans q0
          have tn : (x2.toList != x2.toList) = false := by simp
          clear hb hb2 hbel hwa hbx hba hxb hlm q0
          go_upto_region 37 with fail
          rw [HWA.out, HBXE.out]
          clear d0 d1 d2 d3 d4 d5 HWA HBXE
          go_wp2_with fail
          go_quiet (fail)
          go_wp2_with fail
          go_roundw
          case rel => exact ⟨k + 1, by have := HK.out; omega, by go_num, below_drewN HBA.out _⟩
          case measure => (have := HK.out; simp [intOf]) <;> omega
        · have tk : decide (((k : Nat) : Int) < (r.length : Int)) = false := decide_eq_false (by omega)
          have tk2 : decide (k < r.length) = false := decide_eq_false hlt
          obtain ⟨b, off, rfl, hb, hp⟩ := pg_at (HSL9.out.below hbel (Nat.le_refl _)) hln
          rw [HR0.out] at hp
          obtain ⟨-, -, d2, -⟩ := hp
          obtain ⟨gA, oA, rfl, -, hcA⟩ := awd_at (HA1.out.below hbel (Nat.le_refl _)) (k := 0) (by simp)
          obtain ⟨gB, oB, rfl, -, hcB⟩ := awd_at (HB1.out.below hbel (Nat.le_refl _)) (k := 0) (by simp)
          obtain ⟨xc, hxc⟩ : ∃ c, p0.cred = c := ⟨_, rfl⟩
          simp only [List.getElem_cons_zero, Nat.zero_mul, Nat.add_zero] at hcA hcB d2
          rw [hxc] at hcA hcB d2
          have hA : wr.cell? ⟨gA, oA, none⟩ = some (.string ⟨#[116, 104, 105, 110, 103]⟩) ∧ wr.cell? ⟨gA, oA + 1, none⟩ = some (.string xc) := hcA
          have hB : wr.cell? ⟨gB, oB, none⟩ = some (.string ⟨#[116, 104, 105, 110, 103]⟩) ∧ wr.cell? ⟨gB, oB + 1, none⟩ = some (.string xc) := hcB
          obtain ⟨m0, m1⟩ := hA
          obtain ⟨n0, n1⟩ := hB
          have te : ∀ W : World, (binOp .eql 40 (.agg #[.string ⟨#[116, 104, 105, 110, 103]⟩, .string xc]) (.agg #[.string ⟨#[116, 104, 105, 110, 103]⟩, .string xc])).run Tryz.prog W = .ok (.bool true) W := fun W => by
            have := run_eql_aw W ⟨thingB, xc⟩ ⟨thingB, xc⟩
            rw [awEq_yes rfl] at this
            exact this
          have tg := awGuard
          have tl : (0 : Int) < (r.length : Int) := by omega
          clear hb hbel hk hlt hcA hcB hxc
          go_wp2_with fail
          go_quiet (fail)
          go_wp2_with fail
          go_ret
          exact retB rfl (below_drewN (HBT.out.trans (HBE.out.mono HBT.out.size)) _)
theorem lifted (os : Os) (started : os.Started) (H : Type) (enc : TypeId × Value → H) :
    ReturnsInHanded {} Tryz.checked os 3 .any (Rows.topRightsSpec.pre6 enc Tryz.prog Tryz.f3 Rows.topRightsRow.domain false) (Rows.topRightsSpec.post enc Tryz.prog Tryz.f3 false true false false) := by
  refine law_lifted os started (by kernel_rfl) Tryz.func3
    (ChangeSpec.witness6 (enc := enc) (C := Tryz.checked) false ⟨#[], #[.slice none 0 0], []⟩ 8 (by kernel_rfl) (by kernel_rfl) (by kernel_rfl) (by kernel_rfl))
    (by kernel_rfl) rfl rfl ?_ ?_
  · intro vs ds W p hA
    rw [Tryz.params3] at hA
    obtain ⟨v0, vs0, d0, ds0, p0, q0, rfl, rfl, rfl, h0, r0⟩ := trodAll_cons hA
    obtain ⟨rfl, rfl, rfl⟩ := trodAll_nil r0
    rfl
  · intro W base args ds p hval hA
    rw [Tryz.params3] at hA hval
    obtain ⟨v0, vs0, d0, ds0, p0, q0, hargs, rfl, rfl, h0, r0⟩ := trodAll_cons hA
    obtain ⟨rfl, rfl, rfl⟩ := trodAll_nil r0
    obtain rfl : args = #[v0] := by cases args; simp_all
    obtain ⟨l0, hs0, hf0⟩ := open_pledges (hval 0 22 v0 rfl rfl) h0
    exact walk W l0 v0 hs0 hf0

theorem over : Rows.topRightsRow.holds Tryz.pinned (OpenSpec.ofChange Rows.topRightsSpec) :=
  OpenClaim.holds_of_wide 3 Tryz.f3 rfl rfl rfl rfl rfl rfl rfl ⟨rfl, rfl, rfl, rfl, rfl⟩ rfl rfl rfl rfl rfl (by kernel_rfl) Tryz.func3 (by kernel_rfl)
    (of_decide_eq_true (by kernel_rfl)) (by unfold Func.isWrapper; rw [if_neg (by decide +kernel)]; exact ⟨rfl, rfl⟩)
    (fun os started H enc _ => lifted os started H enc)

/-- The statement. -/
theorem proved : Rows.TopRightsSaid := over
#print axioms proved
end Go.Proofs.YtbigoifpfkdkjaaGreat.topRights
