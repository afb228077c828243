/- Who gets the thing: Award of claimants to one thing. -/
import Derived.Test.YtbigoifpfkdkjaaGreatDisB4
import Derived.Test.YtbigoifpfkdkjaaGreatDisC4
import Derived.Test.YtbigoifpfkdkjaaGreatIter4
import Derived.Test.YtbigoifpfkdkjaaGreatMap
import Derived.Sort.KeysCollected
import Derived.Laws.StructEq
namespace Go.Proofs.YtbigoifpfkdkjaaGreat.Sc
open Go Go.RowKit Go.ChangeShapes Go.WideShapes Go.ChangeAt Mp Go.Sort
set_option maxRecDepth 100000

def Rising (l : List ByteArray) : Prop := l.Pairwise fun a b => bt a < bt b
theorem rising_nodup {l : List ByteArray} (h : Rising l) : l.Nodup := h.imp fun {a b} hab e => by rw [e] at hab; exact List.lt_irrefl _ hab
/-- Sorted, whatever order the keys came in. -/
theorem sorted_keys {ks bs : List ByteArray} {ss : List (List UInt8)} (hs : ss.Perm (ks.map bt)) (hk : ks.Nodup) (hb : Rising bs) (hm : ∀ x, x ∈ ks ↔ x ∈ bs) : ss.mergeSort (fun x y => decide (x ≤ y)) = bs.map bt := by
  have hp : ks.Perm bs := (List.perm_ext_iff_of_nodup hk (rising_nodup hb)).2 hm
  have h1 : ss.mergeSort leB = (bs.map bt).mergeSort leB := mergeSort_of_perm (hs.trans (hp.map bt))
  have h2 : (bs.map bt).Pairwise (fun a b => leB a b = true) := by
    rw [List.pairwise_map]
    exact hb.imp fun {a b} hab => decide_eq_true (List.le_of_lt hab)
  exact h1.trans (List.mergeSort_of_pairwise h2)
/-- A map of few keys is one of the kit's. -/
theorem kit_map {w : World} {bm : Nat} {l : Ents} (h : MapAt w bm l) (hk : ∀ k ∈ mkeys l, k.size ≤ maxLen) (hl : l.length ≤ maxLen) :
    ∃ nn D0, w.ownsMap Tryz.prog 9 (fun _ => some ((.nil : DataW Unit), [])) bm nn D0 ∧ Maps.size D0 = l.length ∧ (strKeys D0).Perm ((mkeys l).map bt) := by
  obtain ⟨es, clock, hb, hf, hn, hc, hd⟩ := h
  have hrd : ∀ {es : List MapEntry} {l : Ents}, Likes es l → (∀ k ∈ mkeys l, k.size ≤ maxLen) → (∀ x ∈ es, ∃ y, WideElems.rd Tryz.prog 9 (fun _ => some ((.nil : DataW Unit), [])) x = some y) ∧
      (es.map (WideElems.rg Tryz.prog 9 (fun _ => some ((.nil : DataW Unit), [])))) = (mkeys l).map fun k => (Lit.string k.data.toList, (.nil : DataW Unit)) := by
    intro es
    induction es with
    | nil =>
      intro l hl _
      cases l with
      | nil => exact ⟨by simp, rfl⟩
      | cons p l => exact hl.elim
    | cons e es ih =>
      intro l hl hk
      cases l with
      | nil => exact hl.elim
      | cons p l =>
        obtain ⟨⟨h1, h2⟩, h3⟩ := hl
        obtain ⟨i1, i2⟩ := ih h3 (fun k hk' => hk k (List.mem_cons_of_mem _ hk'))
        have hr : WideElems.rd Tryz.prog 9 (fun _ => some ((.nil : DataW Unit), [])) e = some (.string p.1.data.toList, .nil) := by
          unfold WideElems.rd
          rw [h1, WideMaps.keyOf_string_mk Tryz.underlying9 (hk p.1 (by simp [mkeys]))]
          rfl
        refine ⟨fun x hx => ?_, ?_⟩
        · rcases List.mem_cons.1 hx with rfl | hx
          · exact ⟨_, hr⟩
          · exact i1 x hx
        · rw [List.map_cons, i2, WideElems.rg, hr]
          rfl
  obtain ⟨r1, r2⟩ := hrd hf hk
  have hlen := hf.length
  have hks : (es.toList.map MapEntry.key) = (mkeys l).map Value.string := by
    have : ∀ {es : List MapEntry} {l : Ents}, Likes es l → es.map MapEntry.key = (mkeys l).map Value.string := by
      intro es
      induction es with
      | nil => intro l hl; cases l with | nil => rfl | cons p l => exact hl.elim
      | cons e es ih => intro l hl; cases l with | nil => exact hl.elim | cons p l => simp only [List.map_cons, hl.1.1, ih hl.2, mkeys]
    exact this hf
  refine ⟨es.size, _, ⟨es, clock, hb, ⟨?_, ⟨hc, hn, ?_⟩, r1⟩, Nat.le_refl _, rfl⟩, ?_, ?_⟩
  · rw [← Array.length_toList, hlen]; exact hl
  · rw [hks]
    exact List.Pairwise.map Value.string (fun a b hab e => hab (by simpa using e)) hd
  · rw [Maps.size_eq, length_sorted, List.length_map, hlen]
  · unfold strKeys
    refine ((sorted_perm _).map _).trans ?_
    rw [r2, List.map_map]
    exact List.Perm.refl _
theorem enc_bt (l : List ByteArray) : (l.map bt).map encStr = l.map Value.string := by
  rw [List.map_map]
  refine List.map_congr_left fun s _ => ?_
  simp [bt]
def thingB : ByteArray := ⟨#[116, 104, 105, 110, 103]⟩
/-- The best of claimants. -/
def betterE (o : Option Clm) (c : Clm) : Option Clm := match o with | none => some c | some b => if cmpC c b < 0 then some c else some b
def bestC (l : List Clm) : Option Clm := l.foldl betterE none
def entsC (o : Option Clm) : Ents := match o with | none => [] | some b => [(thingB, .agg b.cells)]
def keysC (o : Option Clm) : List ByteArray := match o with | none => [] | some _ => [thingB]
def awdC (o : Option Clm) : List Awd := match o with | none => [] | some b => [⟨thingB, b.nm⟩]
theorem best_snoc {l : List Clm} {k : Nat} (h : k < l.length) : bestC (l.take (k + 1)) = betterE (bestC (l.take k)) l[k] := by
  rw [List.take_succ_eq_append_getElem h, bestC, bestC, List.foldl_append]
  rfl
theorem keys_ents (o : Option Clm) : mkeys (entsC o) = keysC o := by cases o <;> rfl
theorem keysC_rising (o : Option Clm) : Rising (keysC o) := by
  cases o
  · exact List.Pairwise.nil
  · exact List.pairwise_singleton _ _
theorem sortedC_any (o : Option Clm) (bm : Nat) (W : World) (h : MapAt W bm (entsC o)) :
    Calls Tryz.prog 23 #[.func (.func 41) #[] #[.pointer (some ⟨W.heap.size, 0, none⟩)]] (W.alloc (.cells #[.map (some bm)] 57))
      (fun e w' => ∃ v, e = .returned v ∧ w'.ownsRow W.heap.size 9 1 v (keysC o).length ((keysC o).map Value.string) ∧ Below W.heap.size W w') := by
  have hks : ∀ k ∈ mkeys (entsC o), k.size ≤ maxLen := by
    intro k hk
    rw [keys_ents] at hk
    cases o
    · cases hk
    · obtain rfl : k = thingB := by simpa [keysC] using hk
      decide
  have hl : (entsC o).length ≤ 1 := by cases o <;> simp [entsC]
  obtain ⟨nn, D0, ho, hsz, hpm⟩ := kit_map h hks (by simp only [maxLen]; omega)
  have hcon := (callsIn_wide (n := 5)).1 (Tryz.slices_Sorted_keys_23_24 bm nn D0 _ W ho (by rw [hsz]; simp only [maxLen]; omega) (by rw [hsz]; omega))
  refine hcon.mono ?_
  rintro e w2 ⟨v, ss, rfl, hS, hrow, hnil, hb⟩
  have hnd := h.nodup
  have hkk : ∀ x, x ∈ mkeys (entsC o) ↔ x ∈ keysC o := fun x => by rw [keys_ents]
  rw [sorted_keys (hS.trans hpm) hnd (keysC_rising o) hkk, enc_bt] at hrow
  have hl2 : ss.length = (keysC o).length := by
    have h1 := (hS.trans hpm).length_eq
    rw [h1, List.length_map, keys_ents]
  rw [hl2] at hrow
  exact ⟨v, rfl, ownsRow_base hrow (by simp), (one_below W _).trans (hb.mono (by simp))⟩
theorem own_shpA {w : World} {B : Nat} {e : TypeId} {size n : Nat} {v : Value} {xs : List Value} (h : w.ownsRow B e size v n xs) : ∃ a c, v = .slice a n c := by
  rcases h.2 with ⟨rfl, rfl⟩ | ⟨g, cap, cur, rfl, _⟩
  · exact ⟨none, 0, rfl⟩
  · exact ⟨_, cap, rfl⟩
theorem aw_one (a b : ByteArray) : ∀ u ∈ (#[.string a, .string b] : Array Value).toList, u.oneCell' = true := by
  intro u hu
  simp only [List.mem_cons, List.not_mem_nil, or_false] at hu
  rcases hu with rfl | rfl <;> rfl
theorem zeroClm (w : World) : (zeroValue 33).run Tryz.prog w = .ok (.agg #[.string ⟨#[]⟩, .string ⟨#[]⟩, .int .i64 0, .int .i64 0, .int .i64 0]) w := by kernel_rfl
/-- What Award tells. -/
def AwP (w : World) (o : Option Clm) (e : Ending) (w' : World) : Prop := ∃ v, e = .returned (.tuple #[v, .int .i64 0]) ∧ w'.ownsRow w.heap.size 40 2 v (awdC o).length (awdCells (awdC o)) ∧ Below w.heap.size w w'
theorem get_ents (o : Option Clm) : mget (entsC o) thingB = o.map fun b => .agg b.cells := by
  cases o
  · rfl
  · simp [entsC, mget]
theorem put_ents (o : Option Clm) (c : Clm) : mput (entsC o) thingB (.agg c.cells) = entsC (some c) := by
  cases o
  · rfl
  · simp [entsC, mput]
theorem key_cell {w : World} {B c : Nat} {q : Option Addr} {b : ByteArray} (h : w.ownsRow B 9 1 (.slice q 1 c) 1 [.string b]) : ∃ g, q = some ⟨g, 0, none⟩ ∧ w.cell? ⟨g, 0, none⟩ = some (.string b) := by
  obtain ⟨h1, h2⟩ := h
  rcases h2 with ⟨-, h2⟩ | ⟨g', cap', cur, hv, hB, hh, h3, h4, h5, h6⟩
  · cases h2
  simp only [Value.slice.injEq, true_and] at hv
  refine ⟨g', hv.1, ?_⟩
  rw [cell_blk hh]
  have h7 : (cur.toList.take (1 * 1))[0]? = some (.string b) := by rw [h6]; rfl
  rw [List.getElem?_take] at h7
  simpa using h7
set_option maxHeartbeats 8000000 in
theorem award_any (l : List Clm) (v : Value) (w : World) (hs : Sl w 5 v (l.map Clm.row)) (hok : ∀ x ∈ l, ClmOk x) (htg : ∀ x ∈ l, x.tg = thingB) (hl : l.length ≤ 4096) :
    Calls Tryz.prog 8 #[v] w (AwP w (bestC l)) := by
  have HW := Lib.hid (clms_right l v w hs hok hl)
  obtain ⟨a0, c0, rfl⟩ : ∃ a c, v = .slice a l.length c := by simpa using hs.shape
  have HS := Lib.hid hs
  have HT := Lib.hid htg
  have HL := Lib.hid hl
  have HJ := Lib.hid better_any
  have tm : ∀ W : World, (Instr.makeMap 57 none).run Tryz.prog W = .ok (.map (some W.heap.size)) (W.alloc (.map #[] 0)) := fun W => by kernel_rfl
  have hll : l.length ≤ 9223372036854775806 := by omega
  clear hs hok htg hl
  go_enter Tryz.func8, Tryz.ntmps8
  go_upto_region 5 with (first
    | ((with_reducible refine HW.out.mono ?_); rintro e w1 ⟨rfl, hb1⟩; have HB1 := Lib.hid hb1; clear hb1)
    | fail)
  have HM0 := Lib.hid (Mp.MapAt.made w1)
  have HB2 : Hid (Below w.heap.size w (w1.alloc (.map #[] 0))) := Lib.hid (HB1.out.alloc HB1.out.size _)
  generalize w1.alloc (.map #[] 0) = w2 at *
  obtain ⟨bm, hbm⟩ : ∃ b, b = w1.heap.size := ⟨_, rfl⟩
  rw [← hbm] at HM0 ⊢
  have HBM : Hid (w.heap.size ≤ bm) := Lib.hid (by rw [hbm]; exact HB1.out.size)
  clear hbm tm
  go_wp2_with fail
  go_loopw [21] (fun i wr => ∃ k : Nat, k ≤ l.length ∧ i = .int .i64 k ∧ MapAt wr bm (entsC (bestC (l.take k))) ∧ Below w.heap.size w wr) (fun i _ => l.length - (intOf i).toNat)
  case atStart => exact ⟨0, Nat.zero_le _, rfl, HM0.out, HB2.out⟩
  case round =>
    obtain ⟨k, hk, rfl, hm, hbel⟩ := hrel
    have HM := Lib.hid hm
    have HBEL := Lib.hid hbel
    by_cases hlt : k < l.length
    · obtain ⟨b, off, rfl, hb, hp⟩ := clm_at HS.out hlt
      obtain ⟨d0, d1, d2, d3, d4⟩ := hp.below hb hbel
      have HTK := Lib.hid (best_snoc hlt)
      have hx := HT.out l[k] (List.getElem_mem hlt)
      have tk : ((k : Nat) : Int) < (l.length : Int) := by omega
      have HK := Lib.hid hlt
      generalize l[k] = x at *
      generalize bestC (l.take k) = o at *
      obtain ⟨x0, x1, x2, x3, x4⟩ := x
      simp only at d0 d1 d2 d3 d4 hx
      subst hx
      clear hb hp hm hbel
      have HX := Lib.hid (heap_alloc_new wr (.cells #[.string x0, .string thingB, .int .i64 x2, .int .i64 x3, .int .i64 x4] 33))
      have HBX := Lib.hid (one_below wr (.cells #[.string x0, .string thingB, .int .i64 x2, .int .i64 x3, .int .i64 x4] 33))
      have HMX := Lib.hid (HM.out.same (HBX.out.block bm HM.out.lt))
      cases o with
      | none =>
        have HBZ := Lib.hid (HBX.out.trans ((one_below (wr.alloc (.cells #[.string x0, .string thingB, .int .i64 x2, .int .i64 x3, .int .i64 x4] 33)) (.cells #[.string ⟨#[]⟩, .string ⟨#[]⟩, .int .i64 0, .int .i64 0, .int .i64 0] 33)).mono HBX.out.size))
        have HMZ := Lib.hid (HM.out.same (HBZ.out.block bm HM.out.lt))
        have HPU := Lib.hid (put_ents none ⟨x0, thingB, x2, x3, x4⟩)
        go_wp2_with (first
          | ((with_reducible refine Mp.wpl_miss (b := bm) (l := entsC none) (key := thingB) ?_ ?_ ?_ Tryz.underlying57 Tryz.underlying9 (zeroClm _) HMX.out rfl ?_); rfl; rfl; rfl)
          | ((with_reducible refine Mp.wpl_update (b := bm) (l := entsC none) (key := thingB) (v := .agg #[.string x0, .string thingB, .int .i64 x2, .int .i64 x3, .int .i64 x4]) ?_ ?_ ?_ ?_ Tryz.underlying57 Tryz.underlying9 HMZ.out ?_); rfl; rfl; rfl; rfl; intro w5 hm5 hg5 hz5; have HM5 := Lib.hid (HPU.out ▸ hm5); have HG5 := Lib.hid ((HBEL.out.trans (HBZ.out.mono HBEL.out.size)).grown hg5 (Nat.le_trans HBEL.out.size HBZ.out.size) (fun j hj => by obtain rfl : bm = j := Option.some.inj hj; exact HBM.out)); clear hm5 hg5 hz5; go_frame)
          | fail)
        go_roundw
        case rel => exact ⟨k + 1, by have := HK.out; omega, by go_num, by rw [HTK.out]; exact HM5.out, HG5.out⟩
        case measure => (have := HK.out; simp [intOf]) <;> omega
      | some y =>
        have HJ2 := Lib.hid (fun W => HJ.out ⟨x0, thingB, x2, x3, x4⟩ y W)
        have HGE := Lib.hid (get_ents (some y))
        have hbt : betterE (some y) ⟨x0, thingB, x2, x3, x4⟩ = if cmpC ⟨x0, thingB, x2, x3, x4⟩ y < 0 then some ⟨x0, thingB, x2, x3, x4⟩ else some y := rfl
        have HPU := Lib.hid (put_ents (some y) ⟨x0, thingB, x2, x3, x4⟩)
        rw [hbt] at HTK
        obtain ⟨es, hes⟩ : ∃ es, entsC (some y) = es := ⟨_, rfl⟩
        have HES := Lib.hid hes
        rw [hes] at HM HMX HGE HPU
        clear hes
        generalize cmpC ⟨x0, thingB, x2, x3, x4⟩ y = c at *
        obtain ⟨y0, y1, y2, y3, y4⟩ := y
        simp only [Clm.cells, Option.map_some] at HJ2 HGE HPU
        have HBZ := Lib.hid (HBX.out.trans ((one_below (wr.alloc (.cells #[.string x0, .string thingB, .int .i64 x2, .int .i64 x3, .int .i64 x4] 33)) (.cells #[.string y0, .string y1, .int .i64 y2, .int .i64 y3, .int .i64 y4] 33)).mono HBX.out.size))
        have HXZ := Lib.hid ((one_gr _ (.cells #[.string y0, .string y1, .int .i64 y2, .int .i64 y3, .int .i64 y4] 33)).blk HX.out)
        have HMZ := Lib.hid (HM.out.same (HBZ.out.block bm HM.out.lt))
        clear hbt
        by_cases hc : c < 0
        · have t1 : decide (0 < -c) = true := decide_eq_true (by omega)
          have t2 : decide (c < 0) = true := decide_eq_true hc
          rw [if_pos hc] at HTK
          clear hc
          go_wp2_with (first
            | ((with_reducible refine Mp.wpl_got (b := bm) (l := es) (key := thingB) (v := .agg #[.string y0, .string y1, .int .i64 y2, .int .i64 y3, .int .i64 y4]) ?_ ?_ ?_ Tryz.underlying57 Tryz.underlying9 (zeroClm _) HMX.out HGE.out ?_); rfl; rfl; rfl)
            | ((with_reducible refine (HJ2.out _).mono ?_); rintro e w4 ⟨rfl, hg4⟩; have HB4 := Lib.hid (HBZ.out.trans (hg4.below.mono HBZ.out.size)); have HM4 := Lib.hid (HMZ.out.same (hg4.below.block bm HMZ.out.lt)); have e0 := cell_blk (hg4.blk HXZ.out) 0; have e1 := cell_blk (hg4.blk HXZ.out) 1; have e2 := cell_blk (hg4.blk HXZ.out) 2; have e3 := cell_blk (hg4.blk HXZ.out) 3; have e4 := cell_blk (hg4.blk HXZ.out) 4; clear hg4)
            | ((with_reducible refine Mp.wpl_update (b := bm) (l := es) (key := thingB) (v := .agg #[.string x0, .string thingB, .int .i64 x2, .int .i64 x3, .int .i64 x4]) ?_ ?_ ?_ ?_ Tryz.underlying57 Tryz.underlying9 HM4.out ?_); rfl; rfl; rfl; rfl; intro w5 hm5 hg5 hz5; have HM5 := Lib.hid (HPU.out ▸ hm5); have HG5 := Lib.hid ((HBEL.out.trans (HB4.out.mono HBEL.out.size)).grown hg5 (Nat.le_trans HBEL.out.size HB4.out.size) (fun j hj => by obtain rfl : bm = j := Option.some.inj hj; exact HBM.out)); clear hm5 hg5 hz5; go_frame)
            | fail)
          go_roundw
          case rel => exact ⟨k + 1, by have := HK.out; omega, by go_num, by rw [HTK.out]; exact HM5.out, HG5.out⟩
          case measure => (have := HK.out; simp [intOf]) <;> omega
        · have t1 : decide (0 < -c) = false := decide_eq_false (by omega)
          have t2 : decide (c < 0) = false := decide_eq_false hc
          rw [if_neg hc] at HTK
          clear hc
          go_wp2_with (first
            | ((with_reducible refine Mp.wpl_got (b := bm) (l := es) (key := thingB) (v := .agg #[.string y0, .string y1, .int .i64 y2, .int .i64 y3, .int .i64 y4]) ?_ ?_ ?_ Tryz.underlying57 Tryz.underlying9 (zeroClm _) HMX.out HGE.out ?_); rfl; rfl; rfl)
            | ((with_reducible refine (HJ2.out _).mono ?_); rintro e w4 ⟨rfl, hg4⟩; have HB4 := Lib.hid (HBZ.out.trans (hg4.below.mono HBZ.out.size)); have HM4 := Lib.hid (HMZ.out.same (hg4.below.block bm HMZ.out.lt)); clear hg4)
            | fail)
          go_roundw
          case rel => exact ⟨k + 1, by have := HK.out; omega, by go_num, by rw [HTK.out, HES.out]; exact HM4.out, HBEL.out.trans (HB4.out.mono HBEL.out.size)⟩
          case measure => (have := HK.out; simp [intOf]) <;> omega
    · have HE : Hid (l.take k = l) := Lib.hid (List.take_of_length_le (by omega))
      rw [HE.out] at HM
      generalize bestC l = o at *
      obtain ⟨i0, hi, hz, hsz, hby⟩ := info_parts infoAwd
      have HI := Lib.hid (And.intro hi (And.intro hz (And.intro hsz hby)))
      have tk : ¬ (((k : Nat) : Int) < (l.length : Int)) := by omega
      clear hm hbel hi hz hsz hby
      cases o with
      | none =>
        have HMN : Hid (MapAt wr bm []) := Lib.hid HM.out
        go_wp2_with (first
        | ((with_reducible refine Mp.wpl_len (b := bm) (l := []) ?_ ?_ Tryz.underlying57 HMN.out ?_); rfl; rfl)
        | (refine wpList_make_own wr rfl (.const (.int .i64 0)) (.tmp 46) 34 rfl wr.heap.size 40 i0 _ 2 Tryz.underlying34 HI.out.1 HI.out.2.1 HI.out.2.2.1 .i64 .i64 0 0 rfl rfl rfl (by rw [HI.out.2.2.2]; decide) (by simp [maxLen]) (Nat.le_refl _) ?_; intro w6 hown6 hgrow6; have hb6 : Below wr.heap.size wr w6 := (Below.refl _ _).grown hgrow6 (Nat.le_refl _) (fun k hk => by cases hk); have HO6 := Lib.hid hown6; have HB6 := Lib.hid (HBEL.out.trans (hb6.mono HBEL.out.size)); have HM6 := Lib.hid (HM.out.same (hb6.block bm HM.out.lt)); clear hown6 hgrow6 hb6)
        | ((with_reducible refine ((callsIn_wide (n := 5)).1 (Tryz.maps_Keys_24 (some bm) w6)).mono ?_); rintro e w7 ⟨rfl, rfl⟩)
        | ((with_reducible refine (sortedC_any _ bm w6 HM6.out).mono ?_); rintro e w8 ⟨v8, rfl, ho8, hb8⟩; have HO8 := Lib.hid ho8; have HB8 := Lib.hid (HB6.out.trans (hb8.mono HB6.out.size)); have HA8 := Lib.hid (ownsRow_below HO6.out hb8); have HM8 := Lib.hid (HM6.out.same (hb8.block bm HM6.out.lt)); obtain ⟨q8, c8, rfl⟩ : ∃ q c, v8 = .slice q 0 c := own_shpA ho8; clear ho8 hb8)
        | fail)
        obtain ⟨N, hN⟩ : ∃ N, N = wr.heap.size := ⟨_, rfl⟩
        have HN : Hid (w.heap.size ≤ N) := Lib.hid (by rw [hN]; exact HBEL.out.size)
        rw [← hN] at HA8 ⊢
        clear hN
        go_loopw [10, 52] (fun v i wz => v = .slice (some ⟨N, 0, none⟩) 0 0 ∧ i = .int .i64 0 ∧ wz = w8) (fun _ _ _ => 0)
        case atStart => exact ⟨rfl, rfl, rfl⟩
        case round =>
          obtain ⟨rfl, rfl, rfl⟩ := hrel
          go_wp2_with fail
          go_ret2
          exact ⟨_, rfl, ownsRow_base (n := 0) (xs := []) HA8.out HN.out, HB8.out⟩
      | some y =>
        obtain ⟨y0, y1, y2, y3, y4⟩ := y
        have HGE : Hid ((mget (entsC (some ⟨y0, y1, y2, y3, y4⟩)) thingB).getD (.agg #[.string ⟨#[]⟩, .string ⟨#[]⟩, .int .i64 0, .int .i64 0, .int .i64 0]) = .agg #[.string y0, .string y1, .int .i64 y2, .int .i64 y3, .int .i64 y4]) := Lib.hid (by rw [get_ents]; rfl)
        have HMN : Hid (MapAt wr bm [(thingB, .agg #[.string y0, .string y1, .int .i64 y2, .int .i64 y3, .int .i64 y4])]) := Lib.hid HM.out
        go_wp2_with (first
        | ((with_reducible refine Mp.wpl_len (b := bm) (l := [(thingB, .agg #[.string y0, .string y1, .int .i64 y2, .int .i64 y3, .int .i64 y4])]) ?_ ?_ Tryz.underlying57 HMN.out ?_); rfl; rfl)
        | (refine wpList_make_own wr rfl (.const (.int .i64 0)) (.tmp 46) 34 rfl wr.heap.size 40 i0 _ 2 Tryz.underlying34 HI.out.1 HI.out.2.1 HI.out.2.2.1 .i64 .i64 1 1 rfl rfl rfl (by rw [HI.out.2.2.2]; decide) (by simp [maxLen]) (Nat.le_refl _) ?_; intro w6 hown6 hgrow6; have hb6 : Below wr.heap.size wr w6 := (Below.refl _ _).grown hgrow6 (Nat.le_refl _) (fun k hk => by cases hk); have HO6 := Lib.hid hown6; have HB6 := Lib.hid (HBEL.out.trans (hb6.mono HBEL.out.size)); have HM6 := Lib.hid (HM.out.same (hb6.block bm HM.out.lt)); have hs6 := hb6.size; clear hown6 hgrow6 hb6)
        | ((with_reducible refine ((callsIn_wide (n := 5)).1 (Tryz.maps_Keys_24 (some bm) w6)).mono ?_); rintro e w7 ⟨rfl, rfl⟩)
        | ((with_reducible refine (sortedC_any _ bm w6 HM6.out).mono ?_); rintro e w8 ⟨v8, rfl, ho8, hb8⟩; have HO8 := Lib.hid ho8; have HB8 := Lib.hid (HB6.out.trans (hb8.mono HB6.out.size)); have HA8 := Lib.hid (ownsRow_below HO6.out hb8); have HM8 := Lib.hid (HM6.out.same (hb8.block bm HM6.out.lt)); obtain ⟨q8, c8, rfl⟩ : ∃ q c, v8 = .slice q 1 c := own_shpA ho8; have hs8 : wr.heap.size ≤ w8.heap.size := Nat.le_trans hs6 hb8.size; clear ho8 hb8 hs6)
        | fail)
        obtain ⟨g8, hg8, hc8⟩ := key_cell HO8.out
        subst hg8
        have HC8 := Lib.hid hc8
        clear hc8
        have HN8 : Hid (wr.heap.size ≤ w8.heap.size ∧ w.heap.size ≤ wr.heap.size) := Lib.hid ⟨hs8, HBEL.out.size⟩
        clear hs8
        generalize wr.heap.size = N at *
        go_loopw [10, 52] (fun v i wz => (i = .int .i64 0 ∧ v = .slice (some ⟨N, 0, none⟩) 0 1 ∧ wz = w8) ∨ (i = .int .i64 1 ∧ wz.ownsRow w.heap.size 40 2 v 1 [.string thingB, .string y0] ∧ Below w.heap.size w wz)) (fun _ i _ => 1 - (intOf i).toNat)
        case atStart => exact .inl ⟨rfl, rfl, rfl⟩
        case round =>
        rcases hrel with ⟨rfl, rfl, rfl⟩ | ⟨rfl, ho, hbz⟩
        · have d0 := HC8.out
          have tf : ∀ W : World, (Instr.field 33 (.agg #[.string y0, .string y1, .int .i64 y2, .int .i64 y3, .int .i64 y4]) 0).run Tryz.prog W = .ok (.string y0) W := fun W => by kernel_rfl
          have HLN : Hid (0 + 1 ≤ maxLen ∧ (0 + 1) * 32 ≤ 140737488355328 ∧ N ≤ wr.heap.size) := Lib.hid ⟨by simp [maxLen], by decide, HN8.out.1⟩
          go_wp2_with (first
            | ((with_reducible refine Mp.wpl_val (b := bm) (l := entsC (some ⟨y0, y1, y2, y3, y4⟩)) (key := thingB) (v := .agg #[.string y0, .string y1, .int .i64 y2, .int .i64 y3, .int .i64 y4]) ?_ ?_ ?_ Tryz.underlying57 Tryz.underlying9 (zeroClm _) HM8.out HGE.out ?_); rfl; rfl; rfl)
            | (((with_reducible refine Any.wpl_push ?_ ?_ ?_ Tryz.underlying34 HI.out.1 HI.out.2.1 HI.out.2.2.1 HI.out.2.2.2 ?_ (by decide) ?_ ((aw_one _ _)) (HA8.out) HLN.out.1 HLN.out.2.1 HLN.out.2.2 ?_); rfl; rfl; rfl; rfl; rfl; intro v4 w4 hown4 hgrow4 hwho4))
            | fail)
          have HO4 : Hid (w4.ownsRow w.heap.size 40 2 v4 1 [.string thingB, .string y0]) := Lib.hid (ownsRow_base hown4 HN8.out.2)
          have HB4 : Hid (Below w.heap.size w w4) := Lib.hid (HB8.out.grown hgrow4 HB8.out.size (fun k hk => Nat.le_trans HN8.out.2 (HA8.out.lt k hk).1))
          clear hown4 hgrow4 hwho4
          go_roundw
          case rel => exact .inr ⟨by go_num, HO4.out, HB4.out⟩
          case measure => simp [intOf]
        · have HO := Lib.hid ho
          have HBZ := Lib.hid hbz
          clear ho hbz
          go_wp2_with fail
          go_ret2
          exact ⟨_, rfl, HO.out, HBZ.out⟩
end Go.Proofs.YtbigoifpfkdkjaaGreat.Sc
