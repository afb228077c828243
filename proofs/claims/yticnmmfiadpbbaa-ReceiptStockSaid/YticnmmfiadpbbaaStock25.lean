/- The stock is what was stored, less what went out: passing and parting change nothing. No condition. -/
import Derived.Test.YticnmmfiadpbbaaCharges25
import Derived.Test.YticnmmfiadpbbaaCatZ
namespace Go.Proofs.Yticnmmfiadpbbaa.Sc
open Go Go.RowKit
abbrev LotZ : Value → Prop := fun u => u ∈ (Value.agg #[.string ⟨#[]⟩, .int .i64 0]).cells.toList
theorem own_off {w : World} {bh bm bu B sz n : Nat} {T : TypeId} {h : Hs} {v : Value} {xs : List Value} (H : Hsx w bh bm bu h) (ho : w.ownsRow B T sz v n xs) : ∀ b, v.ownBlock = some b → ¬ (b = bm ∨ b = bu) := by
  obtain ⟨es, us, H⟩ := H
  intro b hb e
  rcases ho.2 with ⟨rfl, _⟩ | ⟨g, cap, cur, rfl, hg, hh, _⟩
  · cases hb
  · obtain rfl : g = b := Option.some.inj hb
    rcases e with e | e
    · exact box_not_map hh H.rm e
    · exact box_not_map hh H.um e
theorem own_ne {v u : Value} (h : ∀ b, v.ownBlock = some b → u.ownBlock ≠ some b) : u.ownBlock = none ∨ u.ownBlock ≠ v.ownBlock := by
  cases hu : u.ownBlock with
  | none => exact .inl rfl
  | some b => exact .inr fun e => h b e.symm hu
theorem own_sym {v u : Value} (h : ∀ b, v.ownBlock = some b → u.ownBlock ≠ some b) : ∀ b, u.ownBlock = some b → v.ownBlock ≠ some b := fun b hb e => h b e hb
theorem own_ap1 {w : World} {v u v' : Value} {B sz n : Nat} {T : TypeId} {xs : List Value} (h : ∀ b, v.ownBlock = some b → u.ownBlock ≠ some b) (hw : ∀ b, v'.ownBlock = some b → v.ownBlock = some b ∨ w.heap.size ≤ b) (ho : w.ownsRow B T sz u n xs) : ∀ b, v'.ownBlock = some b → u.ownBlock ≠ some b := fun b hb e => by
  rcases hw b hb with h1 | h1
  · exact h b h1 e
  · have := (ho.lt b e).2; omega
theorem lot_house : (63 : TypeId) ≠ 70 := by decide
/-- A house stands though lots are appended to an own row. -/
theorem Hsx.catz {w w' : World} {bh bm bu B n : Nat} {h : Hs} {v : Value} {xs : List Value} (H : Hsx w bh bm bu h) (hpos : ∀ r ∈ h.L, ∀ x ∈ r.lots, 0 < x.cnt) (ho : w.ownsRow B 63 2 v n xs) (hs : Spare w 2 n v LotZ) (hg : w.grownBy w' v.ownBlock) (hk : Kept w w' 2 n v) : Hsx w' bh bm bu h := by
  have hoff := own_off H ho
  obtain ⟨es, us, H⟩ := H
  have hbh : some bh ≠ v.ownBlock := fun e => by
    rcases ho.2 with ⟨rfl, _⟩ | ⟨g, cap, cur, rfl, hgb, hh, _⟩
    · cases e
    · obtain rfl : bh = g := Option.some.inj e
      rw [H.box] at hh
      simp only [Option.some.injEq, Obj.cells.injEq] at hh
      exact lot_house hh.2.1.symm
  have hlt := H.lt
  refine ⟨es, us, (hg.block bh hlt.1 hbh).trans H.box, H.rm.same (hg.block bm hlt.2.1 fun e => hoff bm e.symm (.inl rfl)), H.um.same (hg.block bu hlt.2.2 fun e => hoff bu e.symm (.inr rfl)), fun q r hr => ?_, H.miss, H.uses, H.ul, H.ne⟩
  obtain ⟨lv, h3, h4⟩ := H.hit q r hr
  refine ⟨lv, h3, h4.keepX hk.more fun b o row hrow hc j u hu => ?_⟩
  obtain ⟨x, hx, rfl⟩ := List.mem_map.1 hrow
  have hp := hpos r (rfind_some hr).1 x hx
  have h1 := hc 1 (.int .i64 x.cnt) rfl
  have hno : ¬ (v.ownBlock = some b ∧ n * 2 ≤ o + 1) := fun ⟨e1, e2⟩ => by
    have := hs b e1 (o + 1) _ e2 h1
    simp [LotZ, Value.cells] at this
    omega
  match j, hu with
  | 0, hu => exact hk.cell b (o + 0) u (hc 0 u hu) fun ⟨e1, e2⟩ => hno ⟨e1, by omega⟩
  | 1, hu => exact hk.cell b (o + 1) u (hc 1 u hu) hno
  | m + 2, hu => simp [Lt.row] at hu
theorem Sl.lotSrc {w : World} {v : Value} {l : List Lt} (h : Sl w 2 v (l.map Lt.row)) : Src w 2 v l.length (ltCells l) := by
  have := Sl.src h (lt_rows l) (by decide)
  rwa [List.length_map, ← ltCells_flat] at this
theorem tot_le {l : List Lt} (h : ∀ x ∈ l, 1 ≤ x.cnt ∧ x.cnt ≤ 1048576) (g : ByteArray) : posTot l g ≤ 1048576 * l.length := by
  induction l with
  | nil => simp [posTot]
  | cons x r ih =>
    have h1 := ih fun y hy => h y (List.mem_cons_of_mem _ hy)
    have h2 := h x List.mem_cons_self
    rw [posTot, List.length_cons]
    split <;> omega
theorem Norm.all_pos {l : List Lt} (h : Norm l) : ∀ x ∈ l, 0 < x.cnt := h.pos
end Go.Proofs.Yticnmmfiadpbbaa.Sc
namespace Go.Proofs.Yticnmmfiadpbbaa.receiptStock
open Go.ChangeShapes Go.WideShapes Go.ChangeAt Go.RowKit Go Sc
set_option maxRecDepth 100000

set_option maxHeartbeats 16000000 in
theorem walk (w : World) (l : List Opv) (v : Value) (hs : OpsAt w v l) (hf : ∀ o ∈ l, o.fit) : Calls Try.prog 3 #[v] w (RetB w true) := by
  have HAW := Lib.hid (fun W => awake_any W)
  have HLO := Lib.hid (long_any l v w hs hf)
  cases hlr : longR l
  · rw [hlr] at HLO
    obtain ⟨hsm, hlen⟩ := longR_small hlr
    obtain ⟨au, cu', rfl⟩ : ∃ a c, v = .slice a l.length c := by simpa using hs.1.shape
    have HS := Lib.hid hs
    have HSM := Lib.hid hsm
    have HFT := Lib.hid hf
    have HZE := Lib.hid (fun W => zeroRef W)
    have hml : l.length ≤ 9223372036854775807 := by omega
    have HLE := Lib.hid hlen
    have HNEW := Lib.hid (fun W => newH_any ⟨#[115, 116, 111, 114, 101]⟩ W)
    have HFL0 := Lib.hid (flow_nil ⟨#[115, 116, 111, 114, 101]⟩)
    obtain ⟨i0, hi, hz, hsz, hby⟩ := info_parts infoLt
    have HI := Lib.hid (And.intro hi (And.intro hz (And.intro hsz hby)))
    clear hlr hs hf hsm hlen hi hz hsz hby
    go_enter Try.func3, Try.ntmps3
    go_wp2_with (first
      | ((with_reducible refine HLO.out.mono ?_); rintro e w1 ⟨rfl, hb1⟩; have HB := Lib.hid hb1; clear hb1)
      | ((with_reducible refine (HNEW.out _).mono ?_); rintro e w2 ⟨hb2, bh, bm, bu, rfl, hh2, g1, g2, g3⟩; have HGE : Hid (w.heap.size ≤ bh ∧ w.heap.size ≤ bm ∧ w.heap.size ≤ bu) := Lib.hid (by have := HB.out.size; omega); have HH := Lib.hid hh2; have HB := Lib.hid (HB.out.trans (hb2.mono HB.out.size)); clear hb2 hh2 g1 g2 g3)
      | fail)
    go_loopw [4, 5, 21] (fun vi vo i wr => ∃ (k : Nat) (s : Flow), k ≤ l.length ∧ i = .int .i64 k ∧ FlowOk k s ∧ Hsx wr bh bm bu s.h ∧ wr.ownsRow w.heap.size 63 2 vi s.ins.length (ltCells s.ins) ∧ Spare wr 2 s.ins.length vi LotZ ∧
      wr.ownsRow w.heap.size 63 2 vo s.outs.length (ltCells s.outs) ∧ Spare wr 2 s.outs.length vo LotZ ∧ (∀ b, vi.ownBlock = some b → vo.ownBlock ≠ some b) ∧ Below w.heap.size w wr) (fun _ _ i _ => l.length - (intOf i).toNat)
    case atStart => exact ⟨0, _, Nat.zero_le _, rfl, HFL0.out, HH.out, World.ownsRow_nil _ _ _ _, spare_nil _ _ _, World.ownsRow_nil _ _ _ _, spare_nil _ _ _, fun b hb => (by cases hb), HB.out⟩
    case round =>
      obtain ⟨k, s, hk, rfl, hfo, hhz, hoi, hsi, hoo, hso, hap, hbel⟩ := hrel
      have HAP := Lib.hid hap
      by_cases hlt : k < l.length
      · obtain ⟨b, off, rfl, -, hb, hc⟩ := HS.out.1.at (i := k) (by simpa using hlt)
        have hro := hc k l[k].row (by simp [hlt])
        have d0 := (hbel.cell (p := ⟨b, off + k * 8, none⟩) hb).trans (hro 0 _ rfl)
        have d1 := (hbel.cell (p := ⟨b, off + k * 8 + 1, none⟩) hb).trans (hro 1 _ rfl)
        have d2 := (hbel.cell (p := ⟨b, off + k * 8 + 2, none⟩) hb).trans (hro 2 _ rfl)
        have d3 := (hbel.cell (p := ⟨b, off + k * 8 + 3, none⟩) hb).trans (hro 3 _ rfl)
        have d4 := (hbel.cell (p := ⟨b, off + k * 8 + 4, none⟩) hb).trans (hro 4 _ rfl)
        have d5 := (hbel.cell (p := ⟨b, off + k * 8 + 5, none⟩) hb).trans (hro 5 _ rfl)
        have d6 := (hbel.cell (p := ⟨b, off + k * 8 + 6, none⟩) hb).trans (hro 6 _ rfl)
        have d7 := (hbel.cell (p := ⟨b, off + k * 8 + 7, none⟩) hb).trans (hro 7 _ rfl)
        have HAT0 := Lib.hid (HS.out.2 l[k] (List.getElem_mem hlt))
        have hat := HAT0.out.below hbel
        have hfox := HFT.out l[k] (List.getElem_mem hlt)
        have hsx := HSM.out l[k] (List.getElem_mem hlt)
        generalize l[k] = x at *
        have HDO0 := Lib.hid (fun W (h1 : Hsx W bh bm bu s.h) (h2 : RefH W (.agg #[.string ⟨#[]⟩, .slice none 0 0, .slice none 0 0]) ⟨⟨#[]⟩, [], []⟩) (h3 : x.at W) => do_any x _ W h1 h2 hfo.ok ((hsOk_nil _).mono (Nat.zero_le _)) h3 hfox hsx (by have := HLE.out; omega))
        obtain ⟨xr, hxr⟩ : ∃ r, r = x.rop := ⟨_, rfl⟩
        have HFO := Lib.hid (hfo.op xr)
        have HKN : Hid (xr.kind = x.kind ∧ xr.lots = x.lots) := Lib.hid (by rw [hxr]; exact ⟨rfl, rfl⟩)
        have HSH : Hid ((flowO s xr).h = opH s.h xr) := Lib.hid rfl
        have HPOS : Hid (∀ r ∈ (opH s.h xr).L, ∀ y ∈ r.lots, 0 < y.cnt) := Lib.hid (fun r hr => ((hfo.ok.op xr).all r hr).norm.pos)
        have HLI : Hid (s.ins.length + x.lots.length ≤ maxLen ∧ (s.ins.length + x.lots.length) * 24 ≤ 140737488355328) := Lib.hid (by have := HLE.out; have := hfo.il; have := hsx.lots; simp only [maxLen]; omega)
        have HLOU : Hid (s.outs.length + x.lots.length ≤ maxLen ∧ (s.outs.length + x.lots.length) * 24 ≤ 140737488355328) := Lib.hid (by have := HLE.out; have := hfo.ol; have := hsx.lots; simp only [maxLen]; omega)
        rw [← hxr] at HDO0
        have HQI : Hid ((flowO s xr).ins = if opC s.h xr = 0 ∧ x.kind = 1 then s.ins ++ x.lots else s.ins) := Lib.hid (by
          show s.ins ++ insOf s.h xr = _
          rw [insOf, HKN.out.1, HKN.out.2]
          split
          · rfl
          · rw [List.append_nil])
        have HQO : Hid ((flowO s xr).outs = if opC s.h xr = 0 ∧ x.kind = 4 then s.outs ++ x.lots else s.outs) := Lib.hid (by
          show s.outs ++ outsOf s.h xr = _
          rw [outsOf, HKN.out.1, HKN.out.2]
          split
          · rfl
          · rw [List.append_nil])
        obtain ⟨xk, xn, xb, xt, xd, xl, xs, xp, lv, nv, pv⟩ := x
        obtain ⟨al, cl, rfl⟩ : ∃ a c, lv = .slice a xl.length c := by simpa using hat.1.shape
        obtain ⟨an, cn, rfl⟩ : ∃ a c, nv = .slice a xs.length c := by simpa using hat.2.1.shape
        obtain ⟨ap, cp, rfl⟩ : ∃ a c, pv = .slice a xp.length c := by simpa using hat.2.2.1.shape
        simp only at d0 d1 d2 d3 d4 d5 d6 d7 HQI HQO HLI HLOU
        obtain ⟨C, hC⟩ : ∃ C, C = opC s.h xr := ⟨_, rfl⟩
        rw [← hC] at HQI HQO HDO0
        have HDO : Hid (∀ W, Hsx W bh bm bu s.h → RefH W (.agg #[.string ⟨#[]⟩, .slice none 0 0, .slice none 0 0]) ⟨⟨#[]⟩, [], []⟩ → Opv.at W ⟨xk, xn, xb, xt, xd, xl, xs, xp, .slice al xl.length cl, .slice an xs.length cn, .slice ap xp.length cp⟩ → Calls Try.prog 11 #[.pointer (some ⟨bh, 0, none⟩), .agg #[.string ⟨#[]⟩, .slice none 0 0, .slice none 0 0], .agg #[.int .i64 xk, .string xn, .string xb, .string xt, .int .i64 xd, .slice al xl.length cl, .slice an xs.length cn, .slice ap xp.length cp]] W (DoP W bh bm bu (opH s.h xr) (opH ⟨⟨#[]⟩, [], []⟩ xr) C (opC ⟨⟨#[]⟩, [], []⟩ xr))) := Lib.hid (fun W h1 h2 h3 => HDO0.out W h1 h2 h3)
        obtain ⟨wq, rfl⟩ : ∃ W, W = wr := ⟨_, rfl⟩
        have hba := one_below wq (.cells #[.int .i64 xk, .string xn, .string xb, .string xt, .int .i64 xd, .slice al xl.length cl, .slice an xs.length cn, .slice ap xp.length cp] 31)
        have HXA := Lib.hid (heap_alloc_new wq (.cells #[.int .i64 xk, .string xn, .string xb, .string xt, .int .i64 xd, .slice al xl.length cl, .slice an xs.length cn, .slice ap xp.length cp] 31))
        have HBA := Lib.hid (hbel.trans (hba.mono hbel.size))
        have HHA := Lib.hid (hhz.below hba)
        have HATA := Lib.hid (hat.below hba)
        have HOIA := Lib.hid (ownsRow_below hoi hba)
        have HOOA := Lib.hid (ownsRow_below hoo hba)
        have HSIA := Lib.hid (hsi.same (fun b hb => hba.block b (hoi.lt b hb).2))
        have HSOA := Lib.hid (hso.same (fun b hb => hba.block b (hoo.lt b hb).2))
        clear hro hc hb hbel hat hfo hfox hsx hba hhz hoi hsi hoo hso hap HDO0 hxr hC
        by_cases hC0 : C = 0
        rotate_left
        · have tC : (C != 0) = true := by simp [hC0]
          have HIN : Hid ((flowO s xr).ins = s.ins) := Lib.hid (by rw [HQI.out, if_neg (fun h => hC0 h.1)])
          have HOU : Hid ((flowO s xr).outs = s.outs) := Lib.hid (by rw [HQO.out, if_neg (fun h => hC0 h.1)])
          clear hC0
          go_wp2_with (first
            | ((with_reducible refine (HDO.out _ HHA.out (HZE.out _) HATA.out).mono ?_); rintro e w4 ⟨y, rfl, hk4, hh4, hr4⟩; obtain ⟨a3, m3, c3, a4, m4, c4, ey⟩ := hr4.shape; subst ey; have HMP := Lib.hid HHA.out.maps; have hoi := own_off HHA.out HOIA.out; have hoo := own_off HHA.out HOOA.out; have hoi4 := ownsRow_keep HOIA.out hk4 hoi; have hoo4 := ownsRow_keep HOOA.out hk4 hoo; have hsi4 := HSIA.out.same (fun b hb => hk4.block b (HOIA.out.lt b hb).2 (hoi b hb)); have hso4 := HSOA.out.same (fun b hb => hk4.block b (HOOA.out.lt b hb).2 (hoo b hb)); have hb4 := hk4.behind HBA.out HBA.out.size (fun q hq e => by have := HGE.out; omega); have hat4 := HAT0.out.below hb4; have hx4 := keep_blk hk4 HMP.out HXA.out (by simp); obtain ⟨yn, hyn⟩ : ∃ n, n = (opH ⟨⟨#[]⟩, [], []⟩ xr).name := ⟨_, rfl⟩; rw [← hyn]; have hbn := one_below w4 (.cells #[.string yn, .slice a3 m3 c3, .slice a4 m4 c4] 35); have HB4 := Lib.hid (hb4.trans (hbn.mono hb4.size)); have HH4 := Lib.hid (hh4.below hbn); have HOI4 := Lib.hid (ownsRow_below hoi4 hbn); have HOO4 := Lib.hid (ownsRow_below hoo4 hbn); have HSI4 := Lib.hid (hsi4.same (fun b hb => hbn.block b (hoi4.lt b hb).2)); have HSO4 := Lib.hid (hso4.same (fun b hb => hbn.block b (hoo4.lt b hb).2)); have HAT4 := Lib.hid (hat4.below hbn); have HX4 := Lib.hid (blk hbn (lt_blk hx4) hx4); obtain ⟨z0, z1, z2, z3, z4, z5, z6, z7⟩ := cells8 hx4; have zl := lt_blk hx4; clear hk4 hh4 hr4 hoi hoo hoi4 hoo4 hsi4 hso4 hb4 hat4 hx4 hyn hbn)
            | fail)
          go_roundw
          case rel => exact ⟨k + 1, flowO s xr, by omega, by go_num, HFO.out, by rw [HSH.out]; exact HH4.out, by rw [HIN.out]; exact HOI4.out, by rw [HIN.out]; exact HSI4.out, by rw [HOU.out]; exact HOO4.out, by rw [HOU.out]; exact HSO4.out, HAP.out, HB4.out⟩
          case measure => (simp [intOf]) <;> omega
        · have tC : (C != 0) = false := by simp [hC0]
          by_cases hk1 : xk = 1
          · have t1 : (xk == 1) = true := by simp [hk1]
            have HIN : Hid ((flowO s xr).ins = s.ins ++ xl) := Lib.hid (by rw [HQI.out, if_pos ⟨hC0, hk1⟩])
            have HOU : Hid ((flowO s xr).outs = s.outs) := Lib.hid (by rw [HQO.out, if_neg (fun h => by have := h.2; omega)])
            clear hC0 hk1
            go_wp2_with (first
              | ((with_reducible refine (HDO.out _ HHA.out (HZE.out _) HATA.out).mono ?_); rintro e w4 ⟨y, rfl, hk4, hh4, hr4⟩; obtain ⟨a3, m3, c3, a4, m4, c4, ey⟩ := hr4.shape; subst ey; have HMP := Lib.hid HHA.out.maps; have hoi := own_off HHA.out HOIA.out; have hoo := own_off HHA.out HOOA.out; have hoi4 := ownsRow_keep HOIA.out hk4 hoi; have hoo4 := ownsRow_keep HOOA.out hk4 hoo; have hsi4 := HSIA.out.same (fun b hb => hk4.block b (HOIA.out.lt b hb).2 (hoi b hb)); have hso4 := HSOA.out.same (fun b hb => hk4.block b (HOOA.out.lt b hb).2 (hoo b hb)); have hb4 := hk4.behind HBA.out HBA.out.size (fun q hq e => by have := HGE.out; omega); have hat4 := HAT0.out.below hb4; have hx4 := keep_blk hk4 HMP.out HXA.out (by simp); obtain ⟨yn, hyn⟩ : ∃ n, n = (opH ⟨⟨#[]⟩, [], []⟩ xr).name := ⟨_, rfl⟩; rw [← hyn]; have hbn := one_below w4 (.cells #[.string yn, .slice a3 m3 c3, .slice a4 m4 c4] 35); have HB4 := Lib.hid (hb4.trans (hbn.mono hb4.size)); have HH4 := Lib.hid (hh4.below hbn); have HOI4 := Lib.hid (ownsRow_below hoi4 hbn); have HOO4 := Lib.hid (ownsRow_below hoo4 hbn); have HSI4 := Lib.hid (hsi4.same (fun b hb => hbn.block b (hoi4.lt b hb).2)); have HSO4 := Lib.hid (hso4.same (fun b hb => hbn.block b (hoo4.lt b hb).2)); have HAT4 := Lib.hid (hat4.below hbn); have HX4 := Lib.hid (blk hbn (lt_blk hx4) hx4); obtain ⟨z0, z1, z2, z3, z4, z5, z6, z7⟩ := cells8 hx4; have zl := lt_blk hx4; clear hk4 hh4 hr4 hoi hoo hoi4 hoo4 hsi4 hso4 hb4 hat4 hx4 hyn hbn)
              | (refine Any.wpl_catz (xs := ltCells s.ins) (news := ltCells xl) ?_ ?_ ?_ Try.underlying27 HI.out.1 HI.out.2.1 HI.out.2.2.1 HI.out.2.2.2 ?_ (by decide) HOI4.out HSI4.out (Sl.lotSrc HAT4.out.1) (lts_one xl) HLI.out.1 HLI.out.2 (Nat.le_trans (Nat.le_refl _) HB4.out.size) ?_; rfl; rfl; rfl; rfl; intro v7 w7 hown7 hsp7 hgrow7 hwho7 hkept7; have HO7 := Lib.hid hown7; have HS7 := Lib.hid hsp7; have HG7 := Lib.hid hgrow7; have HW7 := Lib.hid hwho7; have HK7 := Lib.hid hkept7; clear hown7 hsp7 hgrow7 hwho7 hkept7)
              | fail)
            go_roundw
            case rel => exact ⟨k + 1, flowO s xr, by omega, by go_num, HFO.out, by rw [HSH.out]; exact HH4.out.catz HPOS.out HOI4.out HSI4.out HG7.out HK7.out, by rw [HIN.out, List.length_append, ltCells_append]; exact HO7.out, by rw [HIN.out, List.length_append]; exact HS7.out, by rw [HOU.out]; exact HOO4.out.kept HG7.out (own_ne HAP.out), by rw [HOU.out]; exact HSO4.out.same (fun b hb => HG7.out.block b (HOO4.out.lt b hb).2 (fun e => HAP.out b e.symm hb)), own_ap1 HAP.out HW7.out HOO4.out, HB4.out.grown HG7.out HB4.out.size (fun q hq => (HOI4.out.lt q hq).1)⟩
            case measure => (simp [intOf]) <;> omega
          · have t1 : (xk == 1) = false := by simp [hk1]
            have HIN : Hid ((flowO s xr).ins = s.ins) := Lib.hid (by rw [HQI.out, if_neg (fun h => hk1 h.2)])
            by_cases hk4 : xk = 4
            · have t4 : (xk == 4) = true := by simp [hk4]
              have HOU : Hid ((flowO s xr).outs = s.outs ++ xl) := Lib.hid (by rw [HQO.out, if_pos ⟨hC0, hk4⟩])
              clear hC0 hk1 hk4
              go_wp2_with (first
                | ((with_reducible refine (HDO.out _ HHA.out (HZE.out _) HATA.out).mono ?_); rintro e w4 ⟨y, rfl, hk4, hh4, hr4⟩; obtain ⟨a3, m3, c3, a4, m4, c4, ey⟩ := hr4.shape; subst ey; have HMP := Lib.hid HHA.out.maps; have hoi := own_off HHA.out HOIA.out; have hoo := own_off HHA.out HOOA.out; have hoi4 := ownsRow_keep HOIA.out hk4 hoi; have hoo4 := ownsRow_keep HOOA.out hk4 hoo; have hsi4 := HSIA.out.same (fun b hb => hk4.block b (HOIA.out.lt b hb).2 (hoi b hb)); have hso4 := HSOA.out.same (fun b hb => hk4.block b (HOOA.out.lt b hb).2 (hoo b hb)); have hb4 := hk4.behind HBA.out HBA.out.size (fun q hq e => by have := HGE.out; omega); have hat4 := HAT0.out.below hb4; have hx4 := keep_blk hk4 HMP.out HXA.out (by simp); obtain ⟨yn, hyn⟩ : ∃ n, n = (opH ⟨⟨#[]⟩, [], []⟩ xr).name := ⟨_, rfl⟩; rw [← hyn]; have hbn := one_below w4 (.cells #[.string yn, .slice a3 m3 c3, .slice a4 m4 c4] 35); have HB4 := Lib.hid (hb4.trans (hbn.mono hb4.size)); have HH4 := Lib.hid (hh4.below hbn); have HOI4 := Lib.hid (ownsRow_below hoi4 hbn); have HOO4 := Lib.hid (ownsRow_below hoo4 hbn); have HSI4 := Lib.hid (hsi4.same (fun b hb => hbn.block b (hoi4.lt b hb).2)); have HSO4 := Lib.hid (hso4.same (fun b hb => hbn.block b (hoo4.lt b hb).2)); have HAT4 := Lib.hid (hat4.below hbn); have HX4 := Lib.hid (blk hbn (lt_blk hx4) hx4); obtain ⟨z0, z1, z2, z3, z4, z5, z6, z7⟩ := cells8 hx4; have zl := lt_blk hx4; clear hk4 hh4 hr4 hoi hoo hoi4 hoo4 hsi4 hso4 hb4 hat4 hx4 hyn hbn)
                | (refine Any.wpl_catz (xs := ltCells s.outs) (news := ltCells xl) ?_ ?_ ?_ Try.underlying27 HI.out.1 HI.out.2.1 HI.out.2.2.1 HI.out.2.2.2 ?_ (by decide) HOO4.out HSO4.out (Sl.lotSrc HAT4.out.1) (lts_one xl) HLOU.out.1 HLOU.out.2 (Nat.le_trans (Nat.le_refl _) HB4.out.size) ?_; rfl; rfl; rfl; rfl; intro v7 w7 hown7 hsp7 hgrow7 hwho7 hkept7; have HO7 := Lib.hid hown7; have HS7 := Lib.hid hsp7; have HG7 := Lib.hid hgrow7; have HW7 := Lib.hid hwho7; have HK7 := Lib.hid hkept7; clear hown7 hsp7 hgrow7 hwho7 hkept7)
                | fail)
              go_roundw
              case rel => exact ⟨k + 1, flowO s xr, by omega, by go_num, HFO.out, by rw [HSH.out]; exact HH4.out.catz HPOS.out HOO4.out HSO4.out HG7.out HK7.out, by rw [HIN.out]; exact HOI4.out.kept HG7.out (own_ne (own_sym HAP.out)), by rw [HIN.out]; exact HSI4.out.same (fun b hb => HG7.out.block b (HOI4.out.lt b hb).2 (fun e => HAP.out b hb e.symm)), by rw [HOU.out, List.length_append, ltCells_append]; exact HO7.out, by rw [HOU.out, List.length_append]; exact HS7.out, own_sym (own_ap1 (own_sym HAP.out) HW7.out HOI4.out), HB4.out.grown HG7.out HB4.out.size (fun q hq => (HOO4.out.lt q hq).1)⟩
              case measure => (simp [intOf]) <;> omega
            · have t4 : (xk == 4) = false := by simp [hk4]
              have HOU : Hid ((flowO s xr).outs = s.outs) := Lib.hid (by rw [HQO.out, if_neg (fun h => hk4 h.2)])
              clear hC0 hk1 hk4
              go_wp2_with (first
                | ((with_reducible refine (HDO.out _ HHA.out (HZE.out _) HATA.out).mono ?_); rintro e w4 ⟨y, rfl, hk4, hh4, hr4⟩; obtain ⟨a3, m3, c3, a4, m4, c4, ey⟩ := hr4.shape; subst ey; have HMP := Lib.hid HHA.out.maps; have hoi := own_off HHA.out HOIA.out; have hoo := own_off HHA.out HOOA.out; have hoi4 := ownsRow_keep HOIA.out hk4 hoi; have hoo4 := ownsRow_keep HOOA.out hk4 hoo; have hsi4 := HSIA.out.same (fun b hb => hk4.block b (HOIA.out.lt b hb).2 (hoi b hb)); have hso4 := HSOA.out.same (fun b hb => hk4.block b (HOOA.out.lt b hb).2 (hoo b hb)); have hb4 := hk4.behind HBA.out HBA.out.size (fun q hq e => by have := HGE.out; omega); have hat4 := HAT0.out.below hb4; have hx4 := keep_blk hk4 HMP.out HXA.out (by simp); obtain ⟨yn, hyn⟩ : ∃ n, n = (opH ⟨⟨#[]⟩, [], []⟩ xr).name := ⟨_, rfl⟩; rw [← hyn]; have hbn := one_below w4 (.cells #[.string yn, .slice a3 m3 c3, .slice a4 m4 c4] 35); have HB4 := Lib.hid (hb4.trans (hbn.mono hb4.size)); have HH4 := Lib.hid (hh4.below hbn); have HOI4 := Lib.hid (ownsRow_below hoi4 hbn); have HOO4 := Lib.hid (ownsRow_below hoo4 hbn); have HSI4 := Lib.hid (hsi4.same (fun b hb => hbn.block b (hoi4.lt b hb).2)); have HSO4 := Lib.hid (hso4.same (fun b hb => hbn.block b (hoo4.lt b hb).2)); have HAT4 := Lib.hid (hat4.below hbn); have HX4 := Lib.hid (blk hbn (lt_blk hx4) hx4); obtain ⟨z0, z1, z2, z3, z4, z5, z6, z7⟩ := cells8 hx4; have zl := lt_blk hx4; clear hk4 hh4 hr4 hoi hoo hoi4 hoo4 hsi4 hso4 hb4 hat4 hx4 hyn hbn)
                | fail)
              go_roundw
              case rel => exact ⟨k + 1, flowO s xr, by omega, by go_num, HFO.out, by rw [HSH.out]; exact HH4.out, by rw [HIN.out]; exact HOI4.out, by rw [HIN.out]; exact HSI4.out, by rw [HOU.out]; exact HOO4.out, by rw [HOU.out]; exact HSO4.out, HAP.out, HB4.out⟩
              case measure => (simp [intOf]) <;> omega
      · have HB := Lib.hid hbel
        have HH := Lib.hid hhz
        have hil := hfo.il
        have hol := hfo.ol
        obtain ⟨ai, ci, rfl⟩ := row_shape hoi
        obtain ⟨ao, co, rfl⟩ := row_shape hoo
        have HLB : Hid (leB s.ins s.outs = true) := Lib.hid ((leB_iff _ _).2 (flow_can hfo))
        have HTK := Lib.hid (refTake_any s.ins s.outs _ _ wr (own_lots hoi rfl) (own_lots hoo rfl) (by have := HLE.out; omega) (by have := HLE.out; omega) (fun x hx => by have := hfo.ic x hx; omega) (fun x hx => by have := hfo.oc x hx; omega) (fun g => by have := tot_le hfo.ic g; have := HLE.out; omega) (fun g => by have := tot_le hfo.oc g; have := HLE.out; omega))
        have e1 := flow_left hfo
        have HST := Lib.hid (fun W (h : Hsx W bh bm bu s.h) => stockH_any W h hfo.ok (by have := allL_len hfo.ok; have := hfo.ok.len; have := HLE.out; omega) (by have := hfo.ok.len; have := HLE.out; omega))
        unfold TakeR at HTK
        rw [← e1] at HTK
        generalize stockL s.h = N at *
        have HSM : Hid (∀ W s t, Sl W 2 s (N.map Lt.row) → Sl W 2 t (N.map Lt.row) → Calls Try.prog 13 #[s, t] W (RetB W true)) := Lib.hid (fun W s t hs ht => by
          have := refSameL_any N N s t W hs ht
          rw [decide_eq_true rfl] at this
          exact this)
        clear hbel hhz hoi hsi hoo hso hap hil hol e1 hfo
        go_wp2_with (first
          | ((with_reducible refine (HTK.out).mono ?_); rintro e w3 ⟨hb3, hcase⟩; obtain ⟨v3, rfl, ho3⟩ := hcase.resolve_right (fun h => by rw [HLB.out] at h; cases h.1) |>.2; have HO3 := Lib.hid ho3; have HB := Lib.hid (HB.out.trans (hb3.mono HB.out.size)); have HH := Lib.hid (HH.out.below hb3); clear hb3 ho3 hcase)
          | ((with_reducible refine (HST.out _ HH.out).mono ?_); rintro e w5 ⟨v5, rfl, ho5, hb5⟩; have HO5 := Lib.hid ho5; have HO3 := Lib.hid (ownsRow_below HO3.out hb5); have HB := Lib.hid (HB.out.trans (hb5.mono HB.out.size)); clear hb5 ho5)
          | ((with_reducible refine (HSM.out _ _ _ (own_lots HO5.out rfl) (own_lots HO3.out rfl)).mono ?_); rintro e w6 ⟨rfl, hb6⟩; have HB := Lib.hid (HB.out.trans (hb6.mono HB.out.size)); clear hb6)
          | ((with_reducible refine (HAW.out _).mono ?_); rintro e w9 ⟨rfl, hb9⟩; have HB := Lib.hid (HB.out.trans (hb9.mono HB.out.size)); clear hb9)
          | fail)
        go_ret
        exact retB rfl HB.out
  · rw [hlr] at HLO
    clear hlr hs hf
    go_enter Try.func3, Try.ntmps3
    go_wp2_with (first
      | ((with_reducible refine HLO.out.mono ?_); rintro e w1 ⟨rfl, hb1⟩; have HB := Lib.hid hb1; clear hb1)
      | ((with_reducible refine (HAW.out _).mono ?_); rintro e w9 ⟨rfl, hb9⟩; have HB := Lib.hid (HB.out.trans (hb9.mono HB.out.size)); clear hb9)
      | fail)
    go_ret
    exact retB rfl HB.out

theorem lifted (os : Os) (started : os.Started) (H : Type) (enc : TypeId × Value → H) :
    ReturnsInHanded {} Try.checked os 3 .any (Rows.receiptStockSpec.pre6 enc Try.prog Try.f3 Rows.receiptStockRow.domain false) (Rows.receiptStockSpec.post enc Try.prog Try.f3 false true false false) := by
  refine law_lifted os started (by kernel_rfl) Try.func3
    (ChangeSpec.witness6 (enc := enc) (C := Try.checked) false ⟨#[], #[.slice none 0 0], []⟩ 8 (by kernel_rfl) (by kernel_rfl) (by kernel_rfl) (by kernel_rfl))
    (by kernel_rfl) rfl rfl ?_ ?_
  · intro vs ds W p hA
    rw [Try.params3] at hA
    obtain ⟨v0, vs0, d0, ds0, p0, q0, rfl, rfl, rfl, h0, r0⟩ := trodAll_cons hA
    obtain ⟨rfl, rfl, rfl⟩ := trodAll_nil r0
    rfl
  · intro W base args ds p hval hA
    rw [Try.params3] at hA hval
    obtain ⟨v0, vs0, d0, ds0, p0, q0, hargs, rfl, rfl, h0, r0⟩ := trodAll_cons hA
    obtain ⟨rfl, rfl, rfl⟩ := trodAll_nil r0
    obtain rfl : args = #[v0] := by cases args; simp_all
    obtain ⟨l0, hs0, hf0⟩ := open_ops25 (hval 0 22 v0 rfl rfl) h0
    exact walk W l0 v0 hs0 hf0

theorem over : Rows.receiptStockRow.holds Try.pinned (OpenSpec.ofChange Rows.receiptStockSpec) :=
  OpenClaim.holds_of_wide 3 Try.f3 rfl rfl rfl rfl rfl rfl rfl ⟨rfl, rfl, rfl, rfl, rfl⟩ rfl rfl rfl rfl rfl (by kernel_rfl) Try.func3 (by kernel_rfl)
    (of_decide_eq_true (by kernel_rfl)) (by unfold Func.isWrapper; rw [if_neg (by decide +kernel)]; exact ⟨rfl, rfl⟩)
    (fun os started H enc _ => lifted os started H enc)

/-- The statement. -/
theorem proved : Rows.ReceiptStockSaid := over
#print axioms proved
end Go.Proofs.Yticnmmfiadpbbaa.receiptStock
