/- What is left of lots when others are taken: by the program. Which orders may be: currencies, counts. Costs: which may be; their sum. Who pays at a stage: the table of terms; costs of those that may be, summed up. -/
import Derived.Test.YtnbhneeohkfocaaDoorTo12
import Derived.Test.YtnbhneeohkfocaaDoorTo10
import Derived.OwnWalk
import Derived.WalkMore
import Derived.BigQuiet
import Derived.Deep.CutRange
namespace Go.Proofs.YtnbhneeohkfocaaDoor.Sc
open Go Go.RowKit Go.ChangeShapes Go.WideShapes Go.ChangeAt
set_option maxRecDepth 100000

/-- What stands in the map while the taking goes. -/
def LeftOf (cur : Mp.Ents) (l m : List Lt) (todo : Mp.Ents) : Prop :=
  ∀ n, Mp.mget cur n = (if 0 < posTot l n then some (.int .i64 (posTot l n - if Mp.mget todo n = none then posTot m n else 0)) else none) ∧ (Mp.mget todo n = none → posTot m n ≤ posTot l n)
theorem leftOf_start {el ec : Mp.Ents} {l m : List Lt} (h1 : CntOf el l) (h2 : CntOf ec m) : LeftOf el l m ec := fun n => by
  have h3 := h2 n
  have h4 := posTot_nonneg m n
  have h5 := posTot_nonneg l n
  have h6 : Mp.mget ec n = none → posTot m n = 0 := fun e => by
    rw [e] at h3
    split at h3
    · cases h3
    · omega
  refine ⟨?_, fun e => by rw [h6 e]; exact h5⟩
  rw [h1 n]
  by_cases e : Mp.mget ec n = none
  · rw [if_pos e, h6 e, Int.sub_zero]
  · rw [if_neg e, Int.sub_zero]
theorem leftOf_get {cur todo : Mp.Ents} {l m : List Lt} {key : ByteArray} (h : LeftOf cur l m todo) (hk : Mp.mget todo key ≠ none) : (Mp.mget cur key).getD (.int .i64 0) = .int .i64 (posTot l key) := by
  rw [(h key).1, if_neg hk, Int.sub_zero]
  split
  · rfl
  · have := posTot_nonneg l key
    have : posTot l key = 0 := by omega
    rw [this]; rfl
theorem leftOf_in {cur todo : Mp.Ents} {l m : List Lt} {key : ByteArray} (h : LeftOf cur l m todo) (hk : 0 < posTot l key) : Mp.mget cur key ≠ none := by
  rw [(h key).1, if_pos hk]
  exact fun e => by cases e
theorem leftOf_step {cur todo : Mp.Ents} {l m : List Lt} {key : ByteArray} (h : LeftOf cur l m todo) (h0 : 0 < posTot m key) (hle : posTot m key ≤ posTot l key) :
    LeftOf (Mp.mput cur key (.int .i64 (posTot l key - posTot m key))) l m (Mp.mdel todo key) := fun n => by
  rw [Mp.mget_mdel]
  by_cases hn : key = n
  · subst hn
    rw [if_pos rfl, if_pos rfl, Mp.mget_mput_same, if_pos (by omega)]
    exact ⟨rfl, fun _ => hle⟩
  · rw [if_neg hn, Mp.mget_mput_other _ _ (fun e => hn e.symm)]
    exact h n
theorem leftOf_can {cur : Mp.Ents} {l m : List Lt} (h : LeftOf cur l m []) : canTake l m := fun n => (h n).2 rfl
def leftC (l m : List Lt) (n : ByteArray) : Option Int := if 0 < posTot l n then some (posTot l n - posTot m n) else none
theorem leftOf_end {cur : Mp.Ents} {l m : List Lt} (h : LeftOf cur l m []) (n : ByteArray) : Mp.mget cur n = (leftC l m n).map (Value.int .i64) := by
  rw [(h n).1, if_pos (show Mp.mget [] n = none from rfl), leftC]
  split <;> rfl
theorem left_cnt {es : Mp.Ents} {l m : List Lt} (h : ∀ n, Mp.mget es n = (nz (leftC l m n)).map (Value.int .i64)) (hc : canTake l m) : CntOf es (leftL l m) := fun n => by
  have h1 := hc n
  have h2 := posTot_nonneg m n
  rw [h n, leftL_tot hc, leftC, nz]
  by_cases h3 : 0 < posTot l n
  · rw [if_pos h3]
    by_cases h4 : posTot l n - posTot m n = 0
    · rw [if_pos (by rw [h4]), if_neg (by omega)]; rfl
    · rw [if_neg (fun e => h4 (Option.some.inj e)), if_pos (by omega)]; rfl
  · rw [if_neg h3, if_neg (fun e => by cases e), if_neg (by omega)]; rfl
def TakeP (w : World) (l m : List Lt) (e : Ending) (w' : World) : Prop :=
  (canTake l m ∧ ∃ v, e = .returned (.tuple #[v, .bool true]) ∧ w'.ownsRow w.heap.size 59 2 v (leftL l m).length (ltCells (leftL l m)) ∧ Below w.heap.size w w') ∨
    (¬ canTake l m ∧ e = .returned (.tuple #[.slice none 0 0, .bool false]) ∧ Below w.heap.size w w')
set_option maxHeartbeats 8000000 in
theorem take_any (l m : List Lt) (v1 v2 : Value) (w : World) (hs1 : Sl w 2 v1 (l.map Lt.row)) (hs2 : Sl w 2 v2 (m.map Lt.row)) (hl : l.length ≤ 100000) (hm : m.length ≤ 100000) (hcl : ∀ n, posTot l n ≤ 4611686018427387904) (hcm : ∀ n, posTot m n ≤ 4611686018427387904) :
    Calls Tryd.prog 25 #[v1, v2] w (TakeP w l m) := by
  have HC1 := Lib.hid (counts_all l v1 w hs1 hl hcl)
  have HC2 := Lib.hid (fun W (hW : Below w.heap.size w W) => counts_all m v2 W (hs2.below hW (Nat.le_refl _)) hm hcm)
  have HPL : Hid (∀ n, 0 ≤ posTot l n ∧ posTot l n ≤ 4611686018427387904) := Lib.hid fun n => by
    have := hcl n; have := posTot_nonneg l n; omega
  have HPM : Hid (∀ n, 0 ≤ posTot m n ∧ posTot m n ≤ 4611686018427387904) := Lib.hid fun n => by
    have := hcm n; have := posTot_nonneg m n; omega
  have HLL := Lib.hid hl
  clear hs1 hs2 hl hm hcl hcm
  go_enter Tryd.func25, Tryd.ntmps25
  go_wp2_with (first
    | ((with_reducible refine HC1.out.mono ?_); rintro e w1 ⟨bl, el, rfl, hbl, hm1, hcn1, hel1, hb1⟩; have HM1 := Lib.hid hm1; have HBL := Lib.hid hbl; have HN1 := Lib.hid hcn1; have HE1 := Lib.hid hel1; have HB1 := Lib.hid hb1; clear hm1 hbl hcn1 hel1 hb1)
    | ((with_reducible refine (HC2.out _ HB1.out).mono ?_); rintro e w2 ⟨bc, ec, rfl, hbc, hm2, hcn2, hel2, hb2⟩; have HM2 := Lib.hid hm2; have HN2 := Lib.hid hcn2; have HNE : Hid (bl ≠ bc) := Lib.hid (by have := HM1.out.lt; omega); have HMW := Lib.hid (HM1.out.same (hb2.block _ HM1.out.lt)); have HB2 := Lib.hid (HB1.out.trans (hb2.mono HB1.out.size)); clear hm2 hbc hcn2 hel2 hb2)
    | ((with_reducible refine Mp.wpl_range (b := bc) (l := ec) ?_ ?_ Tryd.underlying92 HM2.out ?_); rfl; rfl; intro w3 hit ha; have HIT := Lib.hid hit; have HB3 : Hid (Below w2.heap.size w2 w3) := Lib.hid (by obtain ⟨o, rfl⟩ := ha; exact one_below _ _); clear hit ha; go_frame)
    | fail)
  obtain ⟨r, hr⟩ : ∃ r, r = w2.heap.size := ⟨_, rfl⟩
  have HRB : Hid (r ≠ bl ∧ w.heap.size ≤ r) := Lib.hid (by have := HMW.out.lt; have := HB2.out.size; omega)
  rw [← hr] at HIT ⊢
  clear hr
  have HND := Lib.hid HM2.out.nodup
  go_loopw [7, 8] (fun _ _ wr => ∃ cur todo : Mp.Ents, Mp.IterAt wr r bc ec todo ∧ Mp.MapAt wr bl cur ∧ LeftOf cur l m todo ∧ (∀ p ∈ todo, p ∈ ec) ∧ cur.length ≤ l.length ∧ Below w.heap.size w wr) (fun _ _ wr => Mp.itLeft wr r bc)
  case atStart => exact ⟨el, ec, HIT.out, HMW.out.same (HB3.out.block _ HMW.out.lt), leftOf_start HN1.out HN2.out, fun _ h => h, HE1.out, HB2.out.trans (HB3.out.mono HB2.out.size)⟩
  case round =>
    obtain ⟨cur, todo, hit, hmp, hd, hin, hle, hbel⟩ := hrel
    have HIT2 := Lib.hid hit
    have HMP := Lib.hid hmp
    have HD := Lib.hid hd
    have HIN := Lib.hid hin
    have HLE := Lib.hid hle
    have HBEL := Lib.hid hbel
    clear hit hmp hd hin hle hbel
    go_wp2_with (first
      | ((with_reducible refine Mp.wpl_next ?_ ?_ HIT2.out ?_ ?_); rfl; rfl)
      | fail)
    · intro h0
      subst h0
      have HCAN := Lib.hid (leftOf_can HD.out)
      have HDF := Lib.hid (delF_any cur (leftC l m) bl wr HMP.out (leftOf_end HD.out))
      go_wp2_with (first
        | ((with_reducible refine HDF.out.mono ?_); rintro e w5 ⟨es2, rfl, hm5, hc5, hl5, hb5⟩; have HB5 := Lib.hid (HBEL.out.trans (hb5.mono HBL.out)); have HRI := Lib.hid (rising_any es2 (leftL l m) bl w5 hm5 (left_cnt hc5 HCAN.out) (leftL_norm HCAN.out) (by have := HLL.out; have := HLE.out; omega)); clear hm5 hc5 hl5 hb5)
        | ((with_reducible refine HRI.out.mono ?_); rintro e w6 ⟨v6, rfl, ho6, hb6⟩; have HO6 := Lib.hid (ownsRow_base ho6 HB5.out.size); have HB6 := Lib.hid (HB5.out.trans (hb6.mono HB5.out.size)); clear ho6 hb6)
        | fail)
      go_ret2
      exact .inl ⟨HCAN.out, _, rfl, HO6.out, HB6.out⟩
    · intro key sv wc hmem hitc hgc hsc hen
      have HMEM := Lib.hid hmem
      have HITC := Lib.hid hitc
      have HNO := Lib.hid (mget_ne hmem)
      obtain ⟨c, hcv, hc0, hct⟩ := ent_val HN2.out HND.out (HIN.out _ hmem)
      simp only at hcv hct
      subst hcv
      have HMC := Lib.hid (HMP.out.same (hgc.block bl HMP.out.lt (fun e => by have := HRB.out.1; have e' := Option.some.inj e; omega)))
      have HBC : Hid (Below w.heap.size w wc) := Lib.hid (HBEL.out.grown hgc HBEL.out.size (fun k hk => by have := HRB.out.2; have e' := Option.some.inj hk; omega))
      have HSUB : Hid (∀ p ∈ Mp.mdel todo key, p ∈ ec) := Lib.hid fun p hp => HIN.out p (List.mem_filter.1 hp).1
      have HLT := Lib.hid (Mp.mdel_lt hmem)
      have HI0 := Lib.hid (Mp.itLeft_eq HIT2.out)
      have HGV := Lib.hid (leftOf_get HD.out HNO.out)
      have HPV := HPL.out key
      have HPC := HPM.out key
      have HS1 := Lib.hid (fun h1 h2 => leftOf_step (key := key) HD.out h1 h2)
      have HS2 := Lib.hid (fun h1 => leftOf_in (key := key) HD.out h1)
      have HCA : Hid (posTot l key < posTot m key → ¬ canTake l m) := Lib.hid fun h1 h2 => by have := h2 key; omega
      rw [hct] at HPC HS1 HCA
      generalize posTot l key = A at *
      clear hmem hitc hgc hsc hct
      by_cases hlt : A < c
      · have t1 : decide (A < c) = true := decide_eq_true hlt
        have HBAD := Lib.hid (HCA.out hlt)
        clear hlt HS1 HS2 HPV HPC
        go_wp2_with (first
          | ((with_reducible refine Mp.wpl_val (l := cur) (key := key) (v := .int .i64 A) ?_ ?_ ?_ Tryd.underlying92 Tryd.underlying9 (zeroInt _) HMC.out HGV.out ?_); rfl; rfl; rfl)
          | fail)
        go_ret2
        exact .inr ⟨HBAD.out, rfl, HBC.out⟩
      · have t1 : decide (A < c) = false := decide_eq_false hlt
        have HNX := Lib.hid (HS1.out hc0 (by omega))
        have HIC := Lib.hid (HS2.out (by omega))
        have eO : wrap64 (A - c) = A - c := wrap_q (by omega)
        clear hlt HS1 HS2 HPV HPC
        go_wp2_with (first
          | ((with_reducible refine Mp.wpl_val (l := cur) (key := key) (v := .int .i64 A) ?_ ?_ ?_ Tryd.underlying92 Tryd.underlying9 (zeroInt _) HMC.out HGV.out ?_); rfl; rfl; rfl)
          | ((with_reducible refine Mp.wpl_update (b := bl) (l := cur) (key := key) (v := .int .i64 (A - c)) ?_ ?_ ?_ ?_ Tryd.underlying92 Tryd.underlying9 HMC.out ?_); rfl; rfl; rfl; exact congrArg (Value.int .i64) eO; intro w5 hm5 hg5 hz5; have HM5 := Lib.hid hm5; have HG5 := Lib.hid hg5; clear hm5 hg5 hz5; go_frame)
          | fail)
        have HIT5 := Lib.hid (HITC.out.same (HG5.out.block r HITC.out.lt.1 (fun e => HRB.out.1 (Option.some.inj e))) (HG5.out.block bc HITC.out.lt.2 (fun e => HNE.out (Option.some.inj e).symm)))
        go_roundw
        case rel => exact ⟨_, _, HIT5.out, HM5.out, HNX.out, HSUB.out, by rw [Mp.mput_length_same _ HIC.out]; exact HLE.out, HBC.out.grown HG5.out HBC.out.size (fun k hk => by have := HBL.out; have e' := Option.some.inj hk; omega)⟩
        case measure =>
          rw [Mp.itLeft_eq HIT5.out, HI0.out]
          exact HLT.out
end Go.Proofs.YtnbhneeohkfocaaDoor.Sc
namespace Go.Proofs.YtnbhneeohkfocaaDoor.Sc
open Go Go.RowKit Go.ChangeShapes Go.WideShapes Go.ChangeAt
set_option maxRecDepth 100000

structure Ln where
  good : ByteArray
  cnt : Int
  price : Int
def Ln.cells (x : Ln) : Array Value := #[.string x.good, .int .i64 x.cnt, .int .i64 x.price]
def Ln.row (x : Ln) : List Value := x.cells.toList
def lnCells (l : List Ln) : List Value := l.flatMap Ln.row
theorem infoLn : (Tryd.prog.info? 34).map (fun i => (i.zero, i.size, i.bytes)) = some (some (.agg #[.string ⟨#[]⟩, .int .i64 0, .int .i64 0]), 3, 32) := by kernel_rfl
theorem ln_one (x : Ln) : ∀ u ∈ x.cells.toList, u.oneCell' = true := by
  intro u hu
  simp only [Ln.cells, List.mem_cons, List.not_mem_nil, or_false] at hu
  rcases hu with rfl | rfl | rfl <;> rfl
theorem lnCells_flat (l : List Ln) : lnCells l = (l.map Ln.row).flatten := by rw [lnCells, List.flatMap_def]
theorem ln_rows (l : List Ln) : ∀ r ∈ l.map Ln.row, r.length = 3 := by
  intro r hr
  obtain ⟨b, -, rfl⟩ := List.mem_map.1 hr
  rfl
theorem lnCells_append (a b : List Ln) : lnCells (a ++ b) = lnCells a ++ lnCells b := by simp [lnCells]
theorem own_lns {w : World} {B n : Nat} {v : Value} {l : List Ln} (h : w.ownsRow B 34 3 v n (lnCells l)) (hn : n = l.length) : Sl w 3 v (l.map Ln.row) := by
  rw [lnCells_flat] at h
  exact own_sl h (by simpa using hn) (ln_rows l)
theorem src_lns {w : World} {v : Value} {l : List Ln} (h : Sl w 3 v (l.map Ln.row)) : Src w 3 v l.length (lnCells l) := by
  have := h.src (ln_rows l) (by decide)
  rw [lnCells_flat]
  simpa using this
/-- What one in a row reads. -/
def LnAt (w : World) (b o : Nat) (x : Ln) : Prop := w.cell? ⟨b, o, none⟩ = some (.string x.good) ∧ w.cell? ⟨b, o + 1, none⟩ = some (.int .i64 x.cnt) ∧ w.cell? ⟨b, o + 2, none⟩ = some (.int .i64 x.price)
theorem ln_at {w : World} {a : Option Addr} {n c : Nat} {l : List Ln} (h : Sl w 3 (.slice a n c) (l.map Ln.row)) {k : Nat} (hk : k < l.length) : ∃ b off, a = some ⟨b, off, none⟩ ∧ b < w.heap.size ∧ LnAt w b (off + k * 3) l[k] := by
  obtain ⟨b, off, e, -, hb, hc⟩ := h.at (i := k) (by simpa using hk)
  have hr := hc k l[k].row (by rw [List.getElem?_map, List.getElem?_eq_getElem hk]; rfl)
  exact ⟨b, off, e, hb, hr 0 _ rfl, hr 1 _ rfl, hr 2 _ rfl⟩
theorem LnAt.below {w w' : World} {b o B : Nat} {x : Ln} (h : LnAt w b o x) (hb : b < B) (hw : Below B w w') : LnAt w' b o x := by
  obtain ⟨h0, h1, h2⟩ := h
  exact ⟨(hw.cell (p := ⟨b, o, none⟩) hb).trans h0, (hw.cell (p := ⟨b, o + 1, none⟩) hb).trans h1, (hw.cell (p := ⟨b, o + 2, none⟩) hb).trans h2⟩
theorem LnAt.keep {F : Nat → Prop} {w w' : World} {b o : Nat} {x : Ln} (h : LnAt w b o x) (hb : b < w.heap.size) (hn : ¬ F b) (hw : Keep F w w') : LnAt w' b o x := by
  obtain ⟨h0, h1, h2⟩ := h
  exact ⟨(hw.cell (o := o) hb hn).trans h0, (hw.cell (o := o + 1) hb hn).trans h1, (hw.cell (o := o + 2) hb hn).trans h2⟩
/-- .. and in a box. -/
theorem ln_box {w : World} {b : Nat} {x : Ln} {T : TypeId} (h : w.heap[b]? = some (.cells x.cells T (0, 0))) : w.cell? ⟨b, 0, none⟩ = some (.string x.good) ∧ w.cell? ⟨b, 1, none⟩ = some (.int .i64 x.cnt) ∧ w.cell? ⟨b, 2, none⟩ = some (.int .i64 x.price) := ⟨cell_blk h 0, cell_blk h 1, cell_blk h 2⟩
def Ln.lot (x : Ln) : Lt := ⟨x.good, x.cnt⟩
def capB (x : UInt8) : Bool := decide (65 ≤ x.toNat) && decide (x.toNat ≤ 90)
def curOk (s : ByteArray) : Bool := match s.data.toList with
  | [x, y, z] => capB x && (capB y && capB z)
  | _ => false
theorem cap_no {x : UInt8} (h : capB x = false) : (x.toNat : Int) < 65 ∨ 90 < (x.toNat : Int) := by
  unfold capB at h
  simp only [Bool.and_eq_false_iff, decide_eq_false_iff_not] at h
  omega
theorem cap_yes {x : UInt8} (h : capB x = true) : ¬ (x.toNat : Int) < 65 ∧ ¬ 90 < (x.toNat : Int) := by
  unfold capB at h
  simp only [Bool.and_eq_true, decide_eq_true_eq] at h
  omega
set_option maxHeartbeats 4000000 in
theorem isCur3 (x y z : UInt8) (w : World) : Calls Tryd.prog 62 #[.string ⟨#[x, y, z]⟩] w (RetB w (capB x && (capB y && capB z))) := by
  have i0 : (((⟨#[x, y, z]⟩ : ByteArray)[0]'(show 0 < 3 by decide)).toNat : Int) = (x.toNat : Int) := rfl
  have i1 : (((⟨#[x, y, z]⟩ : ByteArray)[1]'(show 1 < 3 by decide)).toNat : Int) = (y.toNat : Int) := rfl
  have i2 : (((⟨#[x, y, z]⟩ : ByteArray)[2]'(show 2 < 3 by decide)).toNat : Int) = (z.toNat : Int) := rfl
  have z3 : (⟨#[x, y, z]⟩ : ByteArray).size = 3 := rfl
  go_enter Tryd.func62, Tryd.ntmps62
  go_wp2
  go_loop [9] (fun i => ∃ k : Int, 0 ≤ k ∧ k ≤ 3 ∧ i = .int .i64 k ∧ (0 < k → capB x = true) ∧ (1 < k → capB y = true) ∧ (2 < k → capB z = true)) (fun i => (3 - intOf i).toNat)
  case atStart => exact ⟨0, by omega, by omega, rfl, fun h => absurd h (by decide), fun h => absurd h (by decide), fun h => absurd h (by decide)⟩
  case round =>
    obtain ⟨k, k0, k3, rfl, hx, hy, hz⟩ := hrel
    have HX := Lib.hid hx
    have HY := Lib.hid hy
    have HZ := Lib.hid hz
    clear hx hy hz
    obtain rfl | rfl | rfl | rfl : k = 0 ∨ k = 1 ∨ k = 2 ∨ k = 3 := by omega
    · cases hc : capB x
      · have HC := Lib.hid hc
        rcases cap_no hc with h1 | h1
        · have t1 : decide ((x.toNat : Int) < 65) = true := decide_eq_true h1
          clear hc h1
          go_wp2
          go_ret
          exact retB (by simp) (Below.refl _ _)
        · have t1 : decide ((x.toNat : Int) < 65) = false := decide_eq_false (by omega)
          have t2 : decide (90 < (x.toNat : Int)) = true := decide_eq_true h1
          clear hc h1
          go_wp2
          go_ret
          exact retB (by simp) (Below.refl _ _)
      · have HC := Lib.hid hc
        have t1 : decide ((x.toNat : Int) < 65) = false := decide_eq_false (cap_yes hc).1
        have t2 : decide (90 < (x.toNat : Int)) = false := decide_eq_false (cap_yes hc).2
        clear hc
        go_wp2
        go_round
        case rel => exact ⟨1, by omega, by omega, rfl, fun _ => (by first | trivial | exact HC.out), fun h => absurd h (by decide), fun h => absurd h (by decide)⟩
        case measure => simp [intOf]
    · cases hc : capB y
      · have HC := Lib.hid hc
        rcases cap_no hc with h1 | h1
        · have t1 : decide ((y.toNat : Int) < 65) = true := decide_eq_true h1
          clear hc h1
          go_wp2
          go_ret
          exact retB (by simp) (Below.refl _ _)
        · have t1 : decide ((y.toNat : Int) < 65) = false := decide_eq_false (by omega)
          have t2 : decide (90 < (y.toNat : Int)) = true := decide_eq_true h1
          clear hc h1
          go_wp2
          go_ret
          exact retB (by simp) (Below.refl _ _)
      · have HC := Lib.hid hc
        have t1 : decide ((y.toNat : Int) < 65) = false := decide_eq_false (cap_yes hc).1
        have t2 : decide (90 < (y.toNat : Int)) = false := decide_eq_false (cap_yes hc).2
        clear hc
        go_wp2
        go_round
        case rel => exact ⟨2, by omega, by omega, rfl, fun _ => HX.out (by decide), fun _ => (by first | trivial | exact HC.out), fun h => absurd h (by decide)⟩
        case measure => simp [intOf]
    · cases hc : capB z
      · have HC := Lib.hid hc
        rcases cap_no hc with h1 | h1
        · have t1 : decide ((z.toNat : Int) < 65) = true := decide_eq_true h1
          clear hc h1
          go_wp2
          go_ret
          exact retB (by simp) (Below.refl _ _)
        · have t1 : decide ((z.toNat : Int) < 65) = false := decide_eq_false (by omega)
          have t2 : decide (90 < (z.toNat : Int)) = true := decide_eq_true h1
          clear hc h1
          go_wp2
          go_ret
          exact retB (by simp) (Below.refl _ _)
      · have HC := Lib.hid hc
        have t1 : decide ((z.toNat : Int) < 65) = false := decide_eq_false (cap_yes hc).1
        have t2 : decide (90 < (z.toNat : Int)) = false := decide_eq_false (cap_yes hc).2
        clear hc
        go_wp2
        go_round
        case rel => exact ⟨3, by omega, by omega, rfl, fun _ => HX.out (by decide), fun _ => HY.out (by decide), fun _ => (by first | trivial | exact HC.out)⟩
        case measure => simp [intOf]
    · go_wp2
      go_ret
      exact retB (by rw [HX.out (by decide), HY.out (by decide), HZ.out (by decide)]; rfl) (Below.refl _ _)
theorem isCur_any (s : ByteArray) (w : World) : Calls Tryd.prog 62 #[.string s] w (RetB w (curOk s)) := by
  by_cases h : s.size = 3
  · obtain ⟨⟨l⟩⟩ := s
    match l, h with
    | [x, y, z], _ => exact isCur3 x y z w
  · have hc : curOk s = false := by
      obtain ⟨⟨l⟩⟩ := s
      unfold curOk
      match l, h with
      | [], _ => rfl
      | [_], _ => rfl
      | [_, _], _ => rfl
      | [_, _, _], h => exact absurd rfl h
      | _ :: _ :: _ :: _ :: _, _ => rfl
    rw [hc]
    have t1 : ((s.size : Int) != 3) = true := by simp; omega
    have t2 : (s.size != 3) = true := by simp; omega
    clear h hc
    go_enter Tryd.func62, Tryd.ntmps62
    go_wp2
    go_ret
    exact retB rfl (Below.refl _ _)
theorem moneyC_any (s : ByteArray) (w : World) : Calls Tryd.prog 35 #[.agg #[.string s, .int .i64 0]] w (RetB w (curOk s)) := by
  have HO := Lib.hid (one_below w (.cells #[.string s, .int .i64 0] 80))
  have HC := Lib.hid (heap_alloc_new w (.cells #[.string s, .int .i64 0] 80))
  have HI := Lib.hid (fun W => isCur_any s W)
  generalize curOk s = b at *
  go_enter Tryd.func35, Tryd.ntmps35
  cases b
  · go_wp2_with (first
      | ((with_reducible refine (HI.out _).mono ?_); rintro e w1 ⟨rfl, hb1⟩; have HB1 := Lib.hid (HO.out.trans (hb1.mono HO.out.size)); clear hb1)
      | fail)
    go_ret
    exact retB rfl HB1.out
  · go_wp2_with (first
      | ((with_reducible refine (HI.out _).mono ?_); rintro e w1 ⟨rfl, hb1⟩; have c1 : w1.cell? ⟨w.heap.size, 1, none⟩ = some (.int .i64 0) := cell_blk (blk hb1 (lt_blk HC.out) HC.out) 1; have HB1 := Lib.hid (HO.out.trans (hb1.mono HO.out.size)); clear hb1)
      | fail)
    go_ret
    exact retB rfl HB1.out
def cntO (n : Int) : Bool := decide (1 ≤ n) && decide (n ≤ 1048576)
theorem cnt_any (n : Int) (w : World) : Calls Tryd.prog 36 #[.int .i64 n] w (RetB w (cntO n)) := by
  unfold cntO
  by_cases h1 : 1 ≤ n
  · have t1 : decide (1 ≤ n) = true := decide_eq_true h1
    rw [t1, Bool.true_and]
    clear h1
    go_enter Tryd.func36, Tryd.ntmps36
    go_wp2
    go_ret
    exact retB rfl (Below.refl _ _)
  · have t1 : decide (1 ≤ n) = false := decide_eq_false h1
    rw [t1, Bool.false_and]
    clear h1
    go_enter Tryd.func36, Tryd.ntmps36
    go_wp2
    go_ret
    exact retB rfl (Below.refl _ _)
end Go.Proofs.YtnbhneeohkfocaaDoor.Sc
namespace Go.Proofs.YtnbhneeohkfocaaDoor.Sc
open Go Go.RowKit Go.ChangeShapes Go.WideShapes Go.ChangeAt
set_option maxRecDepth 100000

structure Cst where
  nm : ByteArray
  stg : Int
  am : Int
def Cst.cells (x : Cst) : Array Value := #[.string x.nm, .int .i64 x.stg, .int .i64 x.am]
def Cst.row (x : Cst) : List Value := x.cells.toList
def cstCells (l : List Cst) : List Value := l.flatMap Cst.row
theorem infoCst : (Tryd.prog.info? 119).map (fun i => (i.zero, i.size, i.bytes)) = some (some (.agg #[.string ⟨#[]⟩, .int .i64 0, .int .i64 0]), 3, 32) := by kernel_rfl
theorem cst_one (x : Cst) : ∀ u ∈ x.cells.toList, u.oneCell' = true := by
  intro u hu
  simp only [Cst.cells, List.mem_cons, List.not_mem_nil, or_false] at hu
  rcases hu with rfl | rfl | rfl <;> rfl
theorem cstCells_flat (l : List Cst) : cstCells l = (l.map Cst.row).flatten := by rw [cstCells, List.flatMap_def]
theorem cst_rows (l : List Cst) : ∀ r ∈ l.map Cst.row, r.length = 3 := by
  intro r hr
  obtain ⟨b, -, rfl⟩ := List.mem_map.1 hr
  rfl
theorem cstCells_append (a b : List Cst) : cstCells (a ++ b) = cstCells a ++ cstCells b := by simp [cstCells]
theorem own_csts {w : World} {B n : Nat} {v : Value} {l : List Cst} (h : w.ownsRow B 119 3 v n (cstCells l)) (hn : n = l.length) : Sl w 3 v (l.map Cst.row) := by
  rw [cstCells_flat] at h
  exact own_sl h (by simpa using hn) (cst_rows l)
theorem src_csts {w : World} {v : Value} {l : List Cst} (h : Sl w 3 v (l.map Cst.row)) : Src w 3 v l.length (cstCells l) := by
  have := h.src (cst_rows l) (by decide)
  rw [cstCells_flat]
  simpa using this
/-- What one in a row reads. -/
def CstAt (w : World) (b o : Nat) (x : Cst) : Prop := w.cell? ⟨b, o, none⟩ = some (.string x.nm) ∧ w.cell? ⟨b, o + 1, none⟩ = some (.int .i64 x.stg) ∧ w.cell? ⟨b, o + 2, none⟩ = some (.int .i64 x.am)
theorem cst_at {w : World} {a : Option Addr} {n c : Nat} {l : List Cst} (h : Sl w 3 (.slice a n c) (l.map Cst.row)) {k : Nat} (hk : k < l.length) : ∃ b off, a = some ⟨b, off, none⟩ ∧ b < w.heap.size ∧ CstAt w b (off + k * 3) l[k] := by
  obtain ⟨b, off, e, -, hb, hc⟩ := h.at (i := k) (by simpa using hk)
  have hr := hc k l[k].row (by rw [List.getElem?_map, List.getElem?_eq_getElem hk]; rfl)
  exact ⟨b, off, e, hb, hr 0 _ rfl, hr 1 _ rfl, hr 2 _ rfl⟩
theorem CstAt.below {w w' : World} {b o B : Nat} {x : Cst} (h : CstAt w b o x) (hb : b < B) (hw : Below B w w') : CstAt w' b o x := by
  obtain ⟨h0, h1, h2⟩ := h
  exact ⟨(hw.cell (p := ⟨b, o, none⟩) hb).trans h0, (hw.cell (p := ⟨b, o + 1, none⟩) hb).trans h1, (hw.cell (p := ⟨b, o + 2, none⟩) hb).trans h2⟩
theorem CstAt.keep {F : Nat → Prop} {w w' : World} {b o : Nat} {x : Cst} (h : CstAt w b o x) (hb : b < w.heap.size) (hn : ¬ F b) (hw : Keep F w w') : CstAt w' b o x := by
  obtain ⟨h0, h1, h2⟩ := h
  exact ⟨(hw.cell (o := o) hb hn).trans h0, (hw.cell (o := o + 1) hb hn).trans h1, (hw.cell (o := o + 2) hb hn).trans h2⟩
/-- .. and in a box. -/
theorem cst_box {w : World} {b : Nat} {x : Cst} {T : TypeId} (h : w.heap[b]? = some (.cells x.cells T (0, 0))) : w.cell? ⟨b, 0, none⟩ = some (.string x.nm) ∧ w.cell? ⟨b, 1, none⟩ = some (.int .i64 x.stg) ∧ w.cell? ⟨b, 2, none⟩ = some (.int .i64 x.am) := ⟨cell_blk h 0, cell_blk h 1, cell_blk h 2⟩
def mayC (x : Cst) : Bool := nameOk x.nm && (decide (0 ≤ x.stg) && (decide (x.stg ≤ 7) && (decide (0 ≤ x.am) && decide (x.am ≤ 1099511627776))))
set_option maxHeartbeats 4000000 in
theorem mayC_any (x : Cst) (w : World) : Calls Tryd.prog 82 #[.agg x.cells] w (RetB w (mayC x)) := by
  obtain ⟨nm, st, am⟩ := x
  have HN := Lib.hid (fun W => markName_any nm W)
  have HB := Lib.hid (one_below w (.cells #[.string nm, .int .i64 st, .int .i64 am] 119))
  have HX := Lib.hid (heap_alloc_new w (.cells #[.string nm, .int .i64 st, .int .i64 am] 119))
  have HM : Hid (mayC ⟨nm, st, am⟩ = (nameOk nm && (decide (0 ≤ st) && (decide (st ≤ 7) && (decide (0 ≤ am) && decide (am ≤ 1099511627776)))))) := Lib.hid rfl
  generalize mayC ⟨nm, st, am⟩ = r at *
  simp only [Cst.cells]
  cases hn : nameOk nm
  · rw [hn] at HN HM
    clear hn
    go_enter Tryd.func82, Tryd.ntmps82
    go_wp2_with (first
      | ((with_reducible refine (HN.out _).mono ?_); rintro e w1 ⟨rfl, hb1⟩; have HB1 := Lib.hid (HB.out.trans (hb1.mono HB.out.size)); clear hb1)
      | fail)
    go_ret
    exact retB (by rw [HM.out]; rfl) HB1.out
  rw [hn] at HN HM
  clear hn
  by_cases h1 : ¬ 0 ≤ st
  · have t1 : decide (st < 0) = true := decide_eq_true (by omega)
    rw [decide_eq_false h1] at HM
    clear h1
    go_enter Tryd.func82, Tryd.ntmps82
    go_wp2_with (first
      | ((with_reducible refine (HN.out _).mono ?_); rintro e w1 ⟨rfl, hb1⟩; have HB1 := Lib.hid (HB.out.trans (hb1.mono HB.out.size)); have c1 := cell_blk (blk hb1 (lt_blk HX.out) HX.out) 1; clear hb1)
      | fail)
    go_ret
    exact retB (by rw [HM.out]; rfl) HB1.out
  have h1 := Decidable.not_not.1 h1
  have t1 : decide (st < 0) = false := decide_eq_false (by omega)
  rw [decide_eq_true h1] at HM
  clear h1
  by_cases h1 : ¬ st ≤ 7
  · have t2 : decide (7 < st) = true := decide_eq_true (by omega)
    rw [decide_eq_false h1] at HM
    clear h1
    go_enter Tryd.func82, Tryd.ntmps82
    go_wp2_with (first
      | ((with_reducible refine (HN.out _).mono ?_); rintro e w1 ⟨rfl, hb1⟩; have HB1 := Lib.hid (HB.out.trans (hb1.mono HB.out.size)); have c1 := cell_blk (blk hb1 (lt_blk HX.out) HX.out) 1; clear hb1)
      | fail)
    go_ret
    exact retB (by rw [HM.out]; rfl) HB1.out
  have h1 := Decidable.not_not.1 h1
  have t2 : decide (7 < st) = false := decide_eq_false (by omega)
  rw [decide_eq_true h1] at HM
  clear h1
  by_cases h1 : 0 ≤ am
  · have t3 : decide (0 ≤ am) = true := decide_eq_true h1
    rw [t3] at HM
    clear h1
    go_enter Tryd.func82, Tryd.ntmps82
    go_wp2_with (first
      | ((with_reducible refine (HN.out _).mono ?_); rintro e w1 ⟨rfl, hb1⟩; have HB1 := Lib.hid (HB.out.trans (hb1.mono HB.out.size)); have hx1 := blk hb1 (lt_blk HX.out) HX.out; have c1 := cell_blk hx1 1; have c2 := cell_blk hx1 2; clear hb1 hx1)
      | fail)
    go_ret
    exact retB (by rw [HM.out]; rfl) HB1.out
  · have t3 : decide (0 ≤ am) = false := decide_eq_false h1
    rw [t3] at HM
    clear h1
    go_enter Tryd.func82, Tryd.ntmps82
    go_wp2_with (first
      | ((with_reducible refine (HN.out _).mono ?_); rintro e w1 ⟨rfl, hb1⟩; have HB1 := Lib.hid (HB.out.trans (hb1.mono HB.out.size)); have hx1 := blk hb1 (lt_blk HX.out) HX.out; have c1 := cell_blk hx1 1; have c2 := cell_blk hx1 2; clear hb1 hx1)
      | fail)
    go_ret
    exact retB (by rw [HM.out]; rfl) HB1.out
set_option maxHeartbeats 4000000 in
theorem allMay_any (l : List Cst) (v : Value) (w : World) (hs : Sl w 3 v (l.map Cst.row)) : Calls Tryd.prog 70 #[v] w (RetB w (l.all mayC)) := by
  obtain ⟨a, c, rfl⟩ : ∃ a c, v = .slice a l.length c := by simpa using hs.shape
  have hll : l.length ≤ 9223372036854775807 := by have := hs.len_le; simp only [List.length_map, maxLen] at this; omega
  have HS := Lib.hid hs
  clear hs
  go_enter Tryd.func70, Tryd.ntmps70
  go_wp2_with fail
  go_loopw [4, 7] (fun _ i wr => ∃ k : Nat, k ≤ l.length ∧ i = .int .i64 k ∧ l.all mayC = (l.drop k).all mayC ∧ Below w.heap.size w wr) (fun _ i _ => l.length - (intOf i).toNat)
  case atStart => exact ⟨0, Nat.zero_le _, rfl, rfl, Below.refl _ _⟩
  case round =>
  obtain ⟨k, hk, rfl, hal, hbel⟩ := hrel
  have HB := Lib.hid hbel
  by_cases hlt : k < l.length
  · obtain ⟨b, off, rfl, hb, hp⟩ := cst_at HS.out hlt
    obtain ⟨d0, d1, d2⟩ := hp.below hb hbel
    rw [List.drop_eq_getElem_cons hlt, List.all_cons] at hal
    have HAL := Lib.hid hal
    have tk : ((k : Nat) : Int) < (l.length : Int) := by omega
    have HK := Lib.hid hlt
    generalize l[k] = x at *
    have HM := Lib.hid (fun W => mayC_any x W)
    generalize mayC x = m at *
    obtain ⟨nm, st, am⟩ := x
    simp only [Cst.cells] at d0 d1 d2 HM
    have HBX := Lib.hid (one_below wr (.cells #[.string nm, .int .i64 st, .int .i64 am] 119))
    clear hb hp hbel hal hk hlt
    cases m
    · go_wp2_with (first
        | ((with_reducible refine (HM.out _).mono ?_); rintro e w2 ⟨rfl, hb2⟩; have HB2 := Lib.hid ((HB.out.trans (HBX.out.mono HB.out.size)).trans (hb2.mono (Nat.le_trans HB.out.size HBX.out.size))); clear hb2)
        | fail)
      go_ret
      exact retB (by rw [HAL.out]; rfl) HB2.out
    · go_wp2_with (first
        | ((with_reducible refine (HM.out _).mono ?_); rintro e w2 ⟨rfl, hb2⟩; have HB2 := Lib.hid ((HB.out.trans (HBX.out.mono HB.out.size)).trans (hb2.mono (Nat.le_trans HB.out.size HBX.out.size))); clear hb2)
        | fail)
      go_roundw
      case rel => exact ⟨k + 1, by have := HK.out; omega, by go_num, by rw [HAL.out]; rfl, HB2.out⟩
      case measure => (have := HK.out; simp [intOf]) <;> omega
  have HA : Hid (l.all mayC = true) := Lib.hid (by rw [hal, List.drop_eq_nil_of_le (by omega)]; rfl)
  have tk : ¬ (((k : Nat) : Int) < (l.length : Int)) := by omega
  clear hk hlt hal hbel
  go_wp2_with fail
  go_ret
  exact retB HA.out.symm HB.out
end Go.Proofs.YtnbhneeohkfocaaDoor.Sc
namespace Go.Proofs.YtnbhneeohkfocaaDoor.Sc
open Go Go.RowKit Go.ChangeShapes Go.WideShapes Go.ChangeAt
set_option maxRecDepth 100000

/-- The program's table of terms as it was laid: names, and from which stages on cost and risk are the buyer's. -/
structure TmW (w : World) (nm : Nat → ByteArray) (co ri : Nat → Int) : Prop where
  lt : 2 < w.heap.size
  c0 : ∀ t, t < 8 → w.cell? ⟨2, t * 4, none⟩ = some (.string (nm t))
  c1 : ∀ t, t < 8 → w.cell? ⟨2, t * 4 + 1, none⟩ = some (.int .i64 (co t))
  c2 : ∀ t, t < 8 → w.cell? ⟨2, t * 4 + 2, none⟩ = some (.int .i64 (ri t))
theorem TmW.below {w w' : World} {nm : Nat → ByteArray} {co ri : Nat → Int} (h : TmW w nm co ri) (hb : Below w.heap.size w w') : TmW w' nm co ri :=
  ⟨Nat.lt_of_lt_of_le h.lt hb.size, fun t ht => (hb.cell (p := ⟨2, t * 4, none⟩) h.lt).trans (h.c0 t ht), fun t ht => (hb.cell (p := ⟨2, t * 4 + 1, none⟩) h.lt).trans (h.c1 t ht), fun t ht => (hb.cell (p := ⟨2, t * 4 + 2, none⟩) h.lt).trans (h.c2 t ht)⟩
theorem isTerm_yes (t : Nat) (ht : t < 8) (w : World) : Calls Tryd.prog 81 #[.int .i64 (t : Int)] w (fun e w' => e = .returned (.bool true) ∧ w' = w) := by
  have t1 : decide (0 ≤ (t : Int)) = true := decide_eq_true (by omega)
  have t2 : decide ((t : Int) < 8) = true := decide_eq_true (by omega)
  have t3 : decide (t < 8) = true := decide_eq_true ht
  clear ht
  go_enter Tryd.func81, Tryd.ntmps81
  go_wp2
  go_ret
  exact ⟨rfl, rfl⟩
theorem isStage_yes (t : Int) (h0 : 0 ≤ t) (h7 : t ≤ 7) (w : World) : Calls Tryd.prog 95 #[.int .i64 t] w (fun e w' => e = .returned (.bool true) ∧ w' = w) := by
  have t1 : decide (0 ≤ t) = true := decide_eq_true h0
  have t2 : decide (t < 8) = true := decide_eq_true (by omega)
  clear h0 h7
  go_enter Tryd.func95, Tryd.ntmps95
  go_wp2
  go_ret
  exact ⟨rfl, rfl⟩
section
variable {nm : Nat → ByteArray} {co ri : Nat → Int}
theorem name_any (t : Nat) (ht : t < 8) (w : World) (h : TmW w nm co ri) : Calls Tryd.prog 69 #[.int .i64 (t : Int)] w (fun e w' => e = .returned (.string (nm t)) ∧ w' = w) := by
  have HI := Lib.hid (fun W => isTerm_yes t ht W)
  have c0 := h.c0 t ht
  have t2 : (t : Int) < 8 := by omega
  clear h ht
  go_enter Tryd.func69, Tryd.ntmps69
  go_wp2_with (first
    | ((with_reducible refine (HI.out _).mono ?_); rintro e w1 ⟨rfl, rfl⟩)
    | fail)
  go_ret
  exact ⟨rfl, rfl⟩
theorem passes_any (t : Nat) (ht : t < 8) (w : World) (h : TmW w nm co ri) : Calls Tryd.prog 83 #[.int .i64 (t : Int)] w (Ret w (.tuple #[.int .i64 (co t), .int .i64 (ri t)])) := by
  have HI := Lib.hid (fun W => isTerm_yes t ht W)
  have c1 := h.c1 t ht
  have c2 := h.c2 t ht
  have t2 : (t : Int) < 8 := by omega
  clear h ht
  go_enter Tryd.func83, Tryd.ntmps83
  go_wp2_with (first
    | ((with_reducible refine (HI.out _).mono ?_); rintro e w1 ⟨rfl, rfl⟩)
    | fail)
  go_quiet (fail)
  go_wp2_with fail
  go_ret2
  exact ⟨rfl, below_drewN (Below.refl _ _) _⟩
end
end Go.Proofs.YtnbhneeohkfocaaDoor.Sc
