/- search.round: the iterator's contract. -/
import Derived.Test.YtbmjficiceiekaaDoorSr16
import Derived.LoopNIn
import Derived.LoopIn
import Derived.Shelf.Abstract
namespace Go.Proofs.YtbmjficiceiekaaDoor.Sc
open Go Go.RowKit Go.ChangeShapes Go.WideShapes Go.ChangeAt Go.Shelf
set_option maxRecDepth 100000
attribute [local go_sem] Oper.semAt_some

/-- What the iterator reads, and that it stays. -/
structure IterR (w : World) (bf n₁ bs br bm : Nat) (vv : Value) (V : List Vm) (fr : ByteArray) (ch : Int) (es : Mp.Ents) : Prop where
  box : w.heap[bs]? = some (.cells #[vv, .string fr, .int .i64 ch] 52 (0, 0))
  rbox : w.heap[br]? = some (.cells #[.map (some bm)] 56 (0, 0))
  map : Mp.MapAt w bm es
  vs : VsAt w vv V
  nbs : bs < n₁ ∧ bs ≠ bf
  nbr : br < n₁ ∧ br ≠ bf
  nbm : bm < n₁ ∧ bm ≠ bf
  nvs : V ≠ [] → ∀ b, vv.ownBlock = some b → b < n₁ ∧ b ≠ bf
  ncs : ∀ x ∈ V, x.calls ≠ [] → ∀ b, x.val.ownBlock = some b → b < n₁ ∧ b ≠ bf
theorem Sl.kpf {bf n₁ : Nat} {w w' : World} {sz : Nat} {v : Value} {xs : List (List Value)} (h : Sl w sz v xs) (k : KpF bf n₁ w w') (hF : xs ≠ [] → ∀ b, v.ownBlock = some b → b < n₁ ∧ b ≠ bf) : Sl w' sz v xs := by
  rcases h with h | ⟨b, off, cap, rfl, hlt, h1, h2, hc⟩
  · exact .inl h
  · obtain ⟨o, ho⟩ : ∃ o, w.heap[b]? = some o := ⟨w.heap[b], Array.getElem?_eq_getElem hlt⟩
    refine .inr ⟨b, off, cap, rfl, Nat.lt_of_lt_of_le hlt k.size, h1, h2, fun i r hr j u hu => ?_⟩
    obtain ⟨hn, hne⟩ := hF (fun e => by rw [e] at hr; cases hr) b rfl
    exact k.cell ho hne (.inr hn) (hc i r hr j u hu)
theorem Sl.own_lt {w : World} {sz : Nat} {v : Value} {xs : List (List Value)} (h : Sl w sz v xs) (hne : xs ≠ []) (b : Nat) (hb : v.ownBlock = some b) : b < w.heap.size := by
  rcases h with ⟨h, _⟩ | ⟨b', off, cap, rfl, hlt, _⟩
  · exact absurd h hne
  · obtain rfl : b' = b := Option.some.inj hb
    exact hlt
theorem MapAt.kpf {bf n₁ : Nat} {w w' : World} {b : Nat} {l : Mp.Ents} (h : Mp.MapAt w b l) (k : KpF bf n₁ w w') (hb : b < n₁ ∧ b ≠ bf) : Mp.MapAt w' b l := by
  have hlt := h.lt
  exact h.same ((k.block b _ (Array.getElem?_eq_getElem hlt) hb.2 (.inr hb.1)).trans (Array.getElem?_eq_getElem hlt).symm)
theorem IterR.kpf {w w' : World} {bf n₁ bs br bm : Nat} {vv : Value} {V : List Vm} {fr : ByteArray} {ch : Int} {es : Mp.Ents} (h : IterR w bf n₁ bs br bm vv V fr ch es) (k : KpF bf n₁ w w') : IterR w' bf n₁ bs br bm vv V fr ch es :=
  ⟨k.block bs _ h.box h.nbs.2 (.inr h.nbs.1), k.block br _ h.rbox h.nbr.2 (.inr h.nbr.1), MapAt.kpf h.map k h.nbm, ⟨h.vs.1.kpf k (fun e => h.nvs (by simpa using e)), fun x hx => (h.vs.2 x hx).kpf k (fun e => h.ncs x hx (by simpa using e))⟩, h.nbs, h.nbr, h.nbm, h.nvs, h.ncs⟩
theorem abides_alloc {β : Type} {B : Nat} {J : β → World → Prop} (h : AbidesFrom B J) {s : β} {W : World} (o : Obj) (hs : J s W) : J s (W.alloc o) :=
  h s W _ none hs (World.grownBy_alloc W o none) (fun r e => by cases e)
theorem vs_at {w : World} {a : Option Addr} {n c : Nat} {V : List Vm} (h : VsAt w (.slice a n c) V) {k : Nat} (hk : k < V.length) : ∃ b off, a = some ⟨b, off, none⟩ ∧ b < w.heap.size ∧ w.cell? ⟨b, off + k * 2, none⟩ = some (.string V[k].ship) ∧ w.cell? ⟨b, off + k * 2 + 1, none⟩ = some V[k].val ∧ Sl w 4 V[k].val (V[k].calls.map Cl.row) := by
  obtain ⟨b, off, e, -, hb, hc⟩ := h.1.at (i := k) (by simpa using hk)
  have hr := hc k V[k].row (by rw [List.getElem?_map, List.getElem?_eq_getElem hk]; rfl)
  exact ⟨b, off, e, hb, hr 0 _ rfl, hr 1 _ rfl, h.2 _ (List.getElem_mem hk)⟩
theorem size_al (w : World) (o : Obj) : (w.alloc o).heap.size = w.heap.size + 1 := by simp
theorem kpf_alloc {bf n₁ : Nat} {W w : World} (h : KpF bf n₁ W w) (o : Obj) : KpF bf n₁ W (w.alloc o) := h.trans (KpF.of_below (one_below w o))
set_option maxHeartbeats 8000000 in
theorem iter_in (n : Nat) (l bf n₁ bs br bm : Nat) (vv : Value) (V : List Vm) (fr : ByteArray) (ch : Int) (es : Mp.Ents) (R : Rf) (J Jx : List (LgS V) → World → Prop) (W : World)
    (hI : IterR W bf n₁ bs br bm vv V fr ch es) (hR : RDay es R) (hch : 0 ≤ ch ∧ ch ≤ 1048576) (hRB : ∀ p d ls, R p = some (d, ls) → p ≠ fr → 0 ≤ d ∧ d ≤ 1048576) (hJ : AbidesFrom W.heap.size J) (hn : n₁ ≤ W.heap.size) (hbf : bf < n₁)
    (hY : ∀ pre x W1, J pre W1 → pre.length < (restV R fr ch V 0).length → YieldAt Fence.wide (n - 1) Tryd.prog l (encL x) W1 fun e W' =>
      (e = .returned (.bool true) ∧ J (pre ++ [x]) W' ∧ KpF bf n₁ W1 W') ∨ (e = .returned (.bool false) ∧ Jx (pre ++ [x]) W')) (h0 : J [] W) :
    CallsIn Fence.wide n Tryd.prog 54 #[.func (.yield l) #[] #[], .pointer (some ⟨bs, 0, none⟩), .pointer (some ⟨br, 0, none⟩)] W fun e W' => (∃ v, e = .returned v) ∧
      ((∃ xs : List (LgS V), xs.map Subtype.val = restV R fr ch V 0 ∧ J xs W') ∨ (∃ pre : List (LgS V), True ∧ Jx pre W')) := by
  have hvl : V.length ≤ 9223372036854775807 := by have := hI.vs.1.len_le; simp only [List.length_map, maxLen] at this; omega
  obtain ⟨av, cv, rfl⟩ : ∃ a c, vv = .slice a V.length c := by simpa using hI.vs.1.shape
  have HI := Lib.hid hI
  have HR := Lib.hid hR
  have y0 := cell_blk hI.box 0
  have y1 := cell_blk hI.box 1
  have y2 := cell_blk hI.box 2
  have HJ := Lib.hid hJ
  have HY := Lib.hid hY
  have HRB := Lib.hid hRB
  have HN1 := Lib.hid (And.intro hn hbf)
  obtain ⟨c0, c1⟩ := hch
  clear hI hR hJ hY hRB hn hbf
  refine callsIn_of_wp Tryd.func54 rfl trivial ?_ rfl
  simp only [Tryd.ntmps54, List.size_toArray, List.length_cons, List.length_nil, Nat.reduceAdd, Nat.reduceSub, Array.replicate_succ, Array.replicate_zero, List.push_toArray, List.append_toArray, List.nil_append, List.cons_append]
  gi_wp2
  gi_loopw [4, 5, 6, 7, 8, 9, 10, 11, 15, 23] (fun _ _ _ _ _ _ _ _ i _ wr => ∃ (k : Nat) (pre : List (LgS V)), k ≤ V.length ∧ i = .int .i64 k ∧ restV R fr ch V 0 = pre.map Subtype.val ++ restV R fr ch (V.drop k) k ∧ J pre wr ∧ W.heap.size ≤ wr.heap.size ∧ KpF bf n₁ W wr) (fun _ _ _ _ _ _ _ _ i _ _ => V.length - (intOf i).toNat)
  case atStart => exact ⟨0, [], Nat.zero_le _, rfl, rfl, h0, Nat.le_refl _, KpF.refl⟩
  case round =>
    obtain ⟨k, pre, hk, rfl, hall, hj, hsz, hkp⟩ := hrel
    have HIW := Lib.hid (HI.out.kpf hkp)
    have y0 := cell_blk HIW.out.box 0
    have y1 := cell_blk HIW.out.box 1
    have y2 := cell_blk HIW.out.box 2
    by_cases hlt : k < V.length
    · obtain ⟨b, off, rfl, hb, e0, e1, hcs⟩ := vs_at HIW.out.vs hlt
      have HVN := Lib.hid (restV_next R fr ch V k hlt)
      have HNC := Lib.hid (HI.out.ncs _ (List.getElem_mem hlt))
      have HCS := Lib.hid (HI.out.vs.2 _ (List.getElem_mem hlt))
      have HOK : Hid (∀ a b', a < b' → b' < V[k].calls.length → LgOk V ⟨k, a, b'⟩) := Lib.hid (fun a b' h1 h2 => ⟨V[k], List.getElem?_eq_getElem hlt, h1, h2⟩)
      have hki : ((k : Nat) : Int) < (V.length : Int) := by omega
      generalize V[k] = v at *
      obtain ⟨sh, cval, cs⟩ := v
      simp only at e0 e1 hcs HVN HNC HOK HCS
      obtain ⟨ac, cc, rfl⟩ : ∃ a c, cval = .slice a cs.length c := by simpa using hcs.shape
      have hcl : cs.length ≤ 9223372036854775807 := by have := hcs.len_le; simp only [List.length_map, maxLen] at this; omega
      have HB0 := Lib.hid (heap_alloc_new wr (.cells #[.string sh, .slice ac cs.length cc] 32))
      have HJ1 := Lib.hid (abides_alloc HJ.out (.cells #[.string sh, .slice ac cs.length cc] 32) hj)
      have HK1 := Lib.hid (kpf_alloc hkp (.cells #[.string sh, .slice ac cs.length cc] 32))
      have HSZ := Lib.hid hsz
      have x1 := cell_blk HB0.out 1
      have HALL : Hid (restV R fr ch V 0 = pre.map Subtype.val ++ (restC R fr ch k cs.length (cs.drop 0) 0 ++ restV R fr ch (V.drop (k + 1)) (k + 1))) := Lib.hid (by rw [hall, HVN.out])
      clear hall hj hkp hsz hcs hb hk
      gi_wp2
      generalize wr = w5 at *
      clear x1 y0 y1 y2 e0 e1
      gi_loopw [6, 7, 8, 9, 10, 11, 23] (fun _ _ _ _ _ _ i wr => ∃ (a : Nat) (pre : List (LgS V)), a ≤ cs.length ∧ i = .int .i64 a ∧ restV R fr ch V 0 = pre.map Subtype.val ++ (restC R fr ch k cs.length (cs.drop a) a ++ restV R fr ch (V.drop (k + 1)) (k + 1)) ∧ J pre wr ∧ w5.heap.size + 1 ≤ wr.heap.size ∧ KpF bf n₁ W wr ∧ wr.heap[w5.heap.size]? = some (.cells #[.string sh, .slice ac cs.length cc] 32 (0, 0))) (fun _ _ _ _ _ _ i _ => cs.length - (intOf i).toNat)
      case atStart => exact ⟨0, pre, Nat.zero_le _, rfl, HALL.out, HJ1.out, by simp, HK1.out, HB0.out⟩
      case round =>
        obtain ⟨a, pre, ha, rfl, hall, hj, hsz, hkp, hvb⟩ := hrel
        have HIA := Lib.hid (HI.out.kpf hkp)
        have y0 := cell_blk HIA.out.rbox 0
        have y1 := cell_blk HIA.out.box 1
        have y2 := cell_blk HIA.out.box 2
        have x1 := cell_blk hvb 1
        have l0 := lt_blk HIA.out.rbox
        have l1 := lt_blk HIA.out.box
        have l2 := lt_blk hvb
        by_cases hlt2 : a < cs.length
        · obtain ⟨b', off', rfl, hb', hp⟩ := cl_at (HCS.out.kpf hkp (fun e => HNC.out (by simpa using e))) hlt2
          obtain ⟨d0, d1, d2, d3⟩ := hp
          have HCN := Lib.hid (restC_next R fr ch k cs.length cs a hlt2)
          have hai : ((a : Nat) : Int) < (cs.length : Int) := by omega
          have HAL := Lib.hid hlt2
          generalize cs[a] = c at *
          obtain ⟨cp, cu, ca, cd⟩ := c
          simp only at d0 d1 d2 d3
          have HC0 := Lib.hid (heap_alloc_new wr (.cells (Cl.cells ⟨cp, cu, ca, cd⟩) 39))
          have HVB := Lib.hid (blk (one_below wr (.cells (Cl.cells ⟨cp, cu, ca, cd⟩) 39)) (lt_blk hvb) hvb)
          have HJ2 := Lib.hid (abides_alloc HJ.out (.cells (Cl.cells ⟨cp, cu, ca, cd⟩) 39) hj)
          have HK2 := Lib.hid (kpf_alloc hkp (.cells (Cl.cells ⟨cp, cu, ca, cd⟩) 39))
          have HIB := Lib.hid (HI.out.kpf HK2.out)
          have HM2 := Lib.hid HIB.out.map
          have z0 := cell_blk HIB.out.rbox 0
          have z1 := cell_blk HIB.out.box 1
          have z2 := cell_blk HIB.out.box 2
          have zx := cell_blk HVB.out 1
          have HSZ2 := Lib.hid hsz
          have HALL2 := Lib.hid hall
          obtain ⟨x0, x1', x2, x3⟩ := cl_box (x := ⟨cp, cu, ca, cd⟩) HC0.out
          have HRP := Lib.hid (HR.out cp)
          have HRD : Hid (rdyC R fr ch ⟨cp, cu, ca, cd⟩ = match R cp with | none => false | some (d, _) => decide (d + waitC fr ch cp ≤ cu)) := Lib.hid rfl
          have HRBP := Lib.hid (HRB.out cp)
          simp only [Cl.cells] at HC0 HVB HJ2 HK2 HM2 x0 x1' x2 x3 z0 z1 z2 zx
          clear hall hj hkp hsz hvb hb' ha hlt2
          cases hrp : R cp with
          | none =>
            rw [hrp] at HRP HRD
            have HG := Lib.hid HRP.out
            simp only at HG
            gi_wp2_with (first
              | ((with_reducible refine Mp.wplIn_miss Any.isWide (l := es) (key := cp) ?_ ?_ ?_ Tryd.underlying56 Tryd.underlying9 (zeroStop _) HM2.out HG.out ?_); rfl; rfl; rfl)
              | fail)
            go_roundw
            case rel => exact ⟨a + 1, pre, HAL.out, by go_num, by
              have h1 := HALL2.out
              rw [HCN.out, HRD.out] at h1
              simpa using h1, abides_alloc HJ.out _ HJ2.out, by rw [size_al, size_al]; have := HSZ2.out; omega, kpf_alloc HK2.out _, blk (one_below _ _) (lt_blk HVB.out) HVB.out⟩
            case measure => (simp [intOf]) <;> omega
          | some q =>
            obtain ⟨d, ls⟩ := q
            rw [hrp] at HRP HRD
            obtain ⟨sad, sn, sc, hg⟩ := HRP.out
            have HG := Lib.hid hg
            have hdb := HRBP.out d ls hrp
            have HJ3 := Lib.hid (abides_alloc HJ.out (.cells #[.int .i64 d, .slice sad sn sc] 55) HJ2.out)
            have HK3 := Lib.hid (kpf_alloc HK2.out (.cells #[.int .i64 d, .slice sad sn sc] 55))
            have HVB3 := Lib.hid (blk (one_below _ (.cells #[.int .i64 d, .slice sad sn sc] 55)) (lt_blk HVB.out) HVB.out)
            have HC3 := Lib.hid (blk (one_below _ (.cells #[.int .i64 d, .slice sad sn sc] 55)) (lt_blk HC0.out) HC0.out)
            have HD3 := Lib.hid (heap_alloc_new (wr.alloc (.cells #[.string cp, .int .i64 cu, .int .i64 ca, .int .i64 cd] 39)) (.cells #[.int .i64 d, .slice sad sn sc] 55))
            have HIC := Lib.hid (HI.out.kpf HK3.out)
            have w0 := cell_blk HIC.out.box 1
            have w2 := cell_blk HIC.out.box 2
            have wx := cell_blk HVB3.out 1
            have wd := cell_blk HD3.out 0
            have wc0 := cell_blk HC3.out 0
            have wc1 := cell_blk HC3.out 1
            have s1 := str_beq cp fr
            have HSZ3 : Hid (w5.heap.size + 1 ≤ ((wr.alloc (.cells #[.string cp, .int .i64 cu, .int .i64 ca, .int .i64 cd] 39)).alloc (.cells #[.int .i64 d, .slice sad sn sc] 55)).heap.size) := Lib.hid (by rw [size_al, size_al]; have := HSZ2.out; omega)
            clear HRP hg
            obtain ⟨dd, hdd⟩ : ∃ dd, dd = d + waitC fr ch cp := ⟨_, rfl⟩
            have HDD := Lib.hid hdd
            simp only [← hdd] at HRD
            by_cases hf : cp = fr
            · rw [decide_eq_true hf] at s1
              obtain rfl : dd = d := by rw [hdd, waitC, if_pos hf, Int.add_zero]
              clear hdd hf hdb
              by_cases hq : cu < dd
              · have tq : decide (cu < dd) = true := decide_eq_true hq
                have HRF : Hid (rdyC R fr ch ⟨cp, cu, ca, cd⟩ = false) := Lib.hid (by rw [HRD.out, decide_eq_false (by omega)])
                clear hq
                gi_wp2_with (first
                  | ((with_reducible refine Mp.wplIn_got Any.isWide (l := es) (key := cp) ?_ ?_ ?_ Tryd.underlying56 Tryd.underlying9 (zeroStop _) HM2.out HG.out ?_); rfl; rfl; rfl)
                  | fail)
                go_roundw
                case rel => exact ⟨a + 1, pre, HAL.out, by go_num, by
                  have h1 := HALL2.out
                  rw [HCN.out, HRF.out] at h1
                  simpa using h1, HJ3.out, HSZ3.out, HK3.out, HVB3.out⟩
                case measure => (simp [intOf]) <;> omega
              · have tq : decide (cu < dd) = false := decide_eq_false hq
                have HALL3 : Hid (restV R fr ch V 0 = pre.map Subtype.val ++ (restT k a (a + 1) cs.length ++ (restC R fr ch k cs.length (cs.drop (a + 1)) (a + 1) ++ restV R fr ch (V.drop (k + 1)) (k + 1)))) := Lib.hid (by
                  have h1 := HALL2.out
                  rw [HCN.out, HRD.out, decide_eq_true (by omega), if_pos rfl] at h1
                  rw [h1]
                  simp only [List.append_assoc])
                clear hq
                gi_wp2_with (first
                  | ((with_reducible refine Mp.wplIn_got Any.isWide (l := es) (key := cp) ?_ ?_ ?_ Tryd.underlying56 Tryd.underlying9 (zeroStop _) HM2.out HG.out ?_); rfl; rfl; rfl)
                  | fail)
                clear w0 w2 wx wd wc0 wc1 x0 x1' x2 x3 z0 z1 z2 zx d0 d1 d2 d3 y0 y1 y2 x1 l0 l1 l2 s1 tq
                generalize wr.heap.size = bc
                gi_loopw [11] (fun i wr => ∃ (b : Nat) (pre : List (LgS V)), a + 1 ≤ b ∧ b ≤ cs.length ∧ i = .int .i64 b ∧ restV R fr ch V 0 = pre.map Subtype.val ++ (restT k a b cs.length ++ (restC R fr ch k cs.length (cs.drop (a + 1)) (a + 1) ++ restV R fr ch (V.drop (k + 1)) (k + 1))) ∧ J pre wr ∧ w5.heap.size + 1 ≤ wr.heap.size ∧ KpF bf n₁ W wr ∧ wr.heap[w5.heap.size]? = some (.cells #[.string sh, .slice (some ⟨b', off', none⟩) cs.length cc] 32 (0, 0))) (fun i _ => cs.length - (intOf i).toNat)
                case atStart => exact ⟨a + 1, pre, Nat.le_refl _, HAL.out, by go_num, HALL3.out, HJ3.out, HSZ3.out, HK3.out, HVB3.out⟩
                case round =>
                  obtain ⟨b, pre, hab, hb, rfl, hall, hj, hsz, hkp, hvb⟩ := hrel
                  have x1 := cell_blk hvb 1
                  have HQ := Lib.hid (And.intro hall (And.intro hj (And.intro hsz (And.intro hkp hvb))))
                  by_cases hlb : b < cs.length
                  · have HLB := Lib.hid (And.intro hab hlb)
                    obtain ⟨fn, tmps, assign, body, hy, hRR⟩ := HY.out pre ⟨⟨k, a, b⟩, HOK.out a b HLB.out.1 HLB.out.2⟩ wr hj (by
                      rw [hall, restT_next k a b _ hlb]
                      simp)
                    simp only [encL, Lg.cells] at hy
                    have hbi : (b : Int) < (cs.length : Int) := by omega
                    clear hall hj hsz hkp hvb hab hb hlb
                    gi_wp2
                    refine ⟨fun e => (by cases e), hRR.mono ?_⟩
                    rintro e W3 (⟨rfl, hJ3, hk3⟩ | ⟨rfl, hJx3⟩)
                    · have HJ4 := Lib.hid hJ3
                      have HK4 := Lib.hid hk3
                      clear hJ3 hk3
                      gi_wp2
                      go_roundw
                      case rel => exact ⟨b + 1, pre ++ [⟨⟨k, a, b⟩, HOK.out a b HLB.out.1 HLB.out.2⟩], by have := HLB.out.1; omega, HLB.out.2, by go_num, by
                        rw [HQ.out.1, restT_next k a b _ HLB.out.2]
                        simp, HJ4.out, Nat.le_trans HQ.out.2.2.1 HK4.out.size, HQ.out.2.2.2.1.trans HK4.out, HK4.out.block _ _ HQ.out.2.2.2.2 (by have h1 := HN1.out; have h2 := HSZ.out; omega) (.inl rfl)⟩
                      case measure => (simp [intOf]) <;> omega
                    · gi_wp2
                      refine bodyPost_ret (results_none rfl _ _ _) rfl ?_
                      exact ⟨⟨_, rfl⟩, .inr ⟨_, trivial, hJx3⟩⟩
                  · have hbi : ¬ (b : Int) < (cs.length : Int) := by omega
                    have HE := Lib.hid (restT_end k a b cs.length (by omega))
                    clear hall hj hsz hkp hvb hab
                    gi_wp2
                    go_roundw
                    case rel => exact ⟨a + 1, pre, HAL.out, by go_num, by
                      rw [HQ.out.1, HE.out]
                      rfl, HQ.out.2.1, HQ.out.2.2.1, HQ.out.2.2.2.1, HQ.out.2.2.2.2⟩
                    case measure => (simp [intOf]) <;> omega
            · rw [decide_eq_false hf] at s1
              have hdb := hdb hf
              obtain rfl : dd = d + ch := by rw [hdd, waitC, if_neg hf]
              obtain ⟨h1, h2⟩ := hdb
              clear hdd hf
              by_cases hq : cu < d + ch
              · have tq : decide (cu < d + ch) = true := decide_eq_true hq
                have HRF : Hid (rdyC R fr ch ⟨cp, cu, ca, cd⟩ = false) := Lib.hid (by rw [HRD.out, decide_eq_false (by omega)])
                clear hq
                gi_wp2_with (first
                  | ((with_reducible refine Mp.wplIn_got Any.isWide (l := es) (key := cp) ?_ ?_ ?_ Tryd.underlying56 Tryd.underlying9 (zeroStop _) HM2.out HG.out ?_); rfl; rfl; rfl)
                  | fail)
                go_roundw
                case rel => exact ⟨a + 1, pre, HAL.out, by go_num, by
                  have h1 := HALL2.out
                  rw [HCN.out, HRF.out] at h1
                  simpa using h1, HJ3.out, HSZ3.out, HK3.out, HVB3.out⟩
                case measure => (simp [intOf]) <;> omega
              · have tq : decide (cu < d + ch) = false := decide_eq_false hq
                have HALL3 : Hid (restV R fr ch V 0 = pre.map Subtype.val ++ (restT k a (a + 1) cs.length ++ (restC R fr ch k cs.length (cs.drop (a + 1)) (a + 1) ++ restV R fr ch (V.drop (k + 1)) (k + 1)))) := Lib.hid (by
                  have h1 := HALL2.out
                  rw [HCN.out, HRD.out, decide_eq_true (by omega), if_pos rfl] at h1
                  rw [h1]
                  simp only [List.append_assoc])
                clear hq
                gi_wp2_with (first
                  | ((with_reducible refine Mp.wplIn_got Any.isWide (l := es) (key := cp) ?_ ?_ ?_ Tryd.underlying56 Tryd.underlying9 (zeroStop _) HM2.out HG.out ?_); rfl; rfl; rfl)
                  | fail)
                clear w0 w2 wx wd wc0 wc1 x0 x1' x2 x3 z0 z1 z2 zx d0 d1 d2 d3 y0 y1 y2 x1 l0 l1 l2 s1 tq
                generalize wr.heap.size = bc
                gi_loopw [11] (fun i wr => ∃ (b : Nat) (pre : List (LgS V)), a + 1 ≤ b ∧ b ≤ cs.length ∧ i = .int .i64 b ∧ restV R fr ch V 0 = pre.map Subtype.val ++ (restT k a b cs.length ++ (restC R fr ch k cs.length (cs.drop (a + 1)) (a + 1) ++ restV R fr ch (V.drop (k + 1)) (k + 1))) ∧ J pre wr ∧ w5.heap.size + 1 ≤ wr.heap.size ∧ KpF bf n₁ W wr ∧ wr.heap[w5.heap.size]? = some (.cells #[.string sh, .slice (some ⟨b', off', none⟩) cs.length cc] 32 (0, 0))) (fun i _ => cs.length - (intOf i).toNat)
                case atStart => exact ⟨a + 1, pre, Nat.le_refl _, HAL.out, by go_num, HALL3.out, HJ3.out, HSZ3.out, HK3.out, HVB3.out⟩
                case round =>
                  obtain ⟨b, pre, hab, hb, rfl, hall, hj, hsz, hkp, hvb⟩ := hrel
                  have x1 := cell_blk hvb 1
                  have HQ := Lib.hid (And.intro hall (And.intro hj (And.intro hsz (And.intro hkp hvb))))
                  by_cases hlb : b < cs.length
                  · have HLB := Lib.hid (And.intro hab hlb)
                    obtain ⟨fn, tmps, assign, body, hy, hRR⟩ := HY.out pre ⟨⟨k, a, b⟩, HOK.out a b HLB.out.1 HLB.out.2⟩ wr hj (by
                      rw [hall, restT_next k a b _ hlb]
                      simp)
                    simp only [encL, Lg.cells] at hy
                    have hbi : (b : Int) < (cs.length : Int) := by omega
                    clear hall hj hsz hkp hvb hab hb hlb
                    gi_wp2
                    refine ⟨fun e => (by cases e), hRR.mono ?_⟩
                    rintro e W3 (⟨rfl, hJ3, hk3⟩ | ⟨rfl, hJx3⟩)
                    · have HJ4 := Lib.hid hJ3
                      have HK4 := Lib.hid hk3
                      clear hJ3 hk3
                      gi_wp2
                      go_roundw
                      case rel => exact ⟨b + 1, pre ++ [⟨⟨k, a, b⟩, HOK.out a b HLB.out.1 HLB.out.2⟩], by have := HLB.out.1; omega, HLB.out.2, by go_num, by
                        rw [HQ.out.1, restT_next k a b _ HLB.out.2]
                        simp, HJ4.out, Nat.le_trans HQ.out.2.2.1 HK4.out.size, HQ.out.2.2.2.1.trans HK4.out, HK4.out.block _ _ HQ.out.2.2.2.2 (by have h1 := HN1.out; have h2 := HSZ.out; omega) (.inl rfl)⟩
                      case measure => (simp [intOf]) <;> omega
                    · gi_wp2
                      refine bodyPost_ret (results_none rfl _ _ _) rfl ?_
                      exact ⟨⟨_, rfl⟩, .inr ⟨_, trivial, hJx3⟩⟩
                  · have hbi : ¬ (b : Int) < (cs.length : Int) := by omega
                    have HE := Lib.hid (restT_end k a b cs.length (by omega))
                    clear hall hj hsz hkp hvb hab
                    gi_wp2
                    go_roundw
                    case rel => exact ⟨a + 1, pre, HAL.out, by go_num, by
                      rw [HQ.out.1, HE.out]
                      rfl, HQ.out.2.1, HQ.out.2.2.1, HQ.out.2.2.2.1, HQ.out.2.2.2.2⟩
                    case measure => (simp [intOf]) <;> omega
        · have HE := Lib.hid (restC_end R fr ch k cs.length cs a (by omega))
          have hai : ¬ ((a : Nat) : Int) < (cs.length : Int) := by omega
          have HQ := Lib.hid (And.intro hall (And.intro hj (And.intro hsz hkp)))
          have HKL := Lib.hid hlt
          clear hall hj hsz hkp hvb ha
          gi_wp2
          go_roundw
          case rel => exact ⟨k + 1, pre, HKL.out, by go_num, by
            rw [HQ.out.1, HE.out]
            rfl, HQ.out.2.1, by have h1 := HQ.out.2.2.1; have h2 := HSZ.out; omega, HQ.out.2.2.2⟩
          case measure => (simp [intOf]) <;> omega
    · have hki : ¬ ((k : Nat) : Int) < (V.length : Int) := by omega
      have HQ : Hid (pre.map Subtype.val = restV R fr ch V 0) := Lib.hid (by rw [hall, List.drop_eq_nil_of_le (by omega)]; simp [restV])
      have HJE := Lib.hid hj
      clear hall hj hkp hk
      gi_wp2
      go_end0
      exact ⟨⟨_, rfl⟩, .inl ⟨pre, HQ.out, HJE.out⟩⟩
end Go.Proofs.YtbmjficiceiekaaDoor.Sc
