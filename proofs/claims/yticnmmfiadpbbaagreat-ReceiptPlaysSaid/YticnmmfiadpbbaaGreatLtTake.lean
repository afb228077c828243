/- What is left of lots when others are taken: by the program. -/
import Derived.Test.YticnmmfiadpbbaaGreatLtDel
namespace Go.Proofs.YticnmmfiadpbbaaGreat.Sc
open Go Go.RowKit Go.ChangeShapes Go.WideShapes Go.ChangeAt
set_option maxRecDepth 100000

/-- What stands in the map while the taking goes. -/
def LeftOf (cur : Mp.Ents) (l m : List Lt) (todo : Mp.Ents) : Prop :=
  ∀ n, Mp.mget cur n = (if 0 < posTot l n then some (.int .i64 (posTot l n - if Mp.mget todo n = none then posTot m n else 0)) else none) ∧ (Mp.mget todo n = none → posTot m n ≤ posTot l n)
theorem leftOf_start {el ec : Mp.Ents} {l m : List Lt} (h1 : CntOf el l) (h2 : CntOf ec m) : LeftOf el l m ec := fun n => by
  have h3 := h2 n
  have h4 := posTot_nonneg m n
  have h5 := posTot_nonneg l n
  have h6 : Mp.mget ec n = none → posTot m n = 0 := fun e => by
    rw [e] at h3
    split at h3
    · cases h3
    · omega
  refine ⟨?_, fun e => by rw [h6 e]; exact h5⟩
  rw [h1 n]
  by_cases e : Mp.mget ec n = none
  · rw [if_pos e, h6 e, Int.sub_zero]
  · rw [if_neg e, Int.sub_zero]
theorem leftOf_get {cur todo : Mp.Ents} {l m : List Lt} {key : ByteArray} (h : LeftOf cur l m todo) (hk : Mp.mget todo key ≠ none) : (Mp.mget cur key).getD (.int .i64 0) = .int .i64 (posTot l key) := by
  rw [(h key).1, if_neg hk, Int.sub_zero]
  split
  · rfl
  · have := posTot_nonneg l key
    have : posTot l key = 0 := by omega
    rw [this]; rfl
theorem leftOf_in {cur todo : Mp.Ents} {l m : List Lt} {key : ByteArray} (h : LeftOf cur l m todo) (hk : 0 < posTot l key) : Mp.mget cur key ≠ none := by
  rw [(h key).1, if_pos hk]
  exact fun e => by cases e
theorem leftOf_step {cur todo : Mp.Ents} {l m : List Lt} {key : ByteArray} (h : LeftOf cur l m todo) (h0 : 0 < posTot m key) (hle : posTot m key ≤ posTot l key) :
    LeftOf (Mp.mput cur key (.int .i64 (posTot l key - posTot m key))) l m (Mp.mdel todo key) := fun n => by
  rw [Mp.mget_mdel]
  by_cases hn : key = n
  · subst hn
    rw [if_pos rfl, if_pos rfl, Mp.mget_mput_same, if_pos (by omega)]
    exact ⟨rfl, fun _ => hle⟩
  · rw [if_neg hn, Mp.mget_mput_other _ _ (fun e => hn e.symm)]
    exact h n
theorem leftOf_can {cur : Mp.Ents} {l m : List Lt} (h : LeftOf cur l m []) : canTake l m := fun n => (h n).2 rfl
def leftC (l m : List Lt) (n : ByteArray) : Option Int := if 0 < posTot l n then some (posTot l n - posTot m n) else none
theorem leftOf_end {cur : Mp.Ents} {l m : List Lt} (h : LeftOf cur l m []) (n : ByteArray) : Mp.mget cur n = (leftC l m n).map (Value.int .i64) := by
  rw [(h n).1, if_pos (show Mp.mget [] n = none from rfl), leftC]
  split <;> rfl
theorem left_cnt {es : Mp.Ents} {l m : List Lt} (h : ∀ n, Mp.mget es n = (nz (leftC l m n)).map (Value.int .i64)) (hc : canTake l m) : CntOf es (leftL l m) := fun n => by
  have h1 := hc n
  have h2 := posTot_nonneg m n
  rw [h n, leftL_tot hc, leftC, nz]
  by_cases h3 : 0 < posTot l n
  · rw [if_pos h3]
    by_cases h4 : posTot l n - posTot m n = 0
    · rw [if_pos (by rw [h4]), if_neg (by omega)]; rfl
    · rw [if_neg (fun e => h4 (Option.some.inj e)), if_pos (by omega)]; rfl
  · rw [if_neg h3, if_neg (fun e => by cases e), if_neg (by omega)]; rfl
def TakeP (w : World) (l m : List Lt) (e : Ending) (w' : World) : Prop :=
  (canTake l m ∧ ∃ v, e = .returned (.tuple #[v, .bool true]) ∧ w'.ownsRow w.heap.size 47 2 v (leftL l m).length (ltCells (leftL l m)) ∧ Below w.heap.size w w') ∨
    (¬ canTake l m ∧ e = .returned (.tuple #[.slice none 0 0, .bool false]) ∧ Below w.heap.size w w')
set_option maxHeartbeats 8000000 in
theorem take_any (l m : List Lt) (v1 v2 : Value) (w : World) (hs1 : Sl w 2 v1 (l.map Lt.row)) (hs2 : Sl w 2 v2 (m.map Lt.row)) (hl : l.length ≤ 100000) (hm : m.length ≤ 100000) (hcl : ∀ n, posTot l n ≤ 4611686018427387904) (hcm : ∀ n, posTot m n ≤ 4611686018427387904) :
    Calls Tryz.prog 52 #[v1, v2] w (TakeP w l m) := by
  have HC1 := Lib.hid (counts_all l v1 w hs1 hl hcl)
  have HC2 := Lib.hid (fun W (hW : Below w.heap.size w W) => counts_all m v2 W (hs2.below hW (Nat.le_refl _)) hm hcm)
  have HPL : Hid (∀ n, 0 ≤ posTot l n ∧ posTot l n ≤ 4611686018427387904) := Lib.hid fun n => by
    have := hcl n; have := posTot_nonneg l n; omega
  have HPM : Hid (∀ n, 0 ≤ posTot m n ∧ posTot m n ≤ 4611686018427387904) := Lib.hid fun n => by
    have := hcm n; have := posTot_nonneg m n; omega
  have HLL := Lib.hid hl
  clear hs1 hs2 hl hm hcl hcm
  go_enter Tryz.func52, Tryz.ntmps52
  go_wp2_with (first
    | ((with_reducible refine HC1.out.mono ?_); rintro e w1 ⟨bl, el, rfl, hbl, hm1, hcn1, hel1, hb1⟩; have HM1 := Lib.hid hm1; have HBL := Lib.hid hbl; have HN1 := Lib.hid hcn1; have HE1 := Lib.hid hel1; have HB1 := Lib.hid hb1; clear hm1 hbl hcn1 hel1 hb1)
    | ((with_reducible refine (HC2.out _ HB1.out).mono ?_); rintro e w2 ⟨bc, ec, rfl, hbc, hm2, hcn2, hel2, hb2⟩; have HM2 := Lib.hid hm2; have HN2 := Lib.hid hcn2; have HNE : Hid (bl ≠ bc) := Lib.hid (by have := HM1.out.lt; omega); have HMW := Lib.hid (HM1.out.same (hb2.block _ HM1.out.lt)); have HB2 := Lib.hid (HB1.out.trans (hb2.mono HB1.out.size)); clear hm2 hbc hcn2 hel2 hb2)
    | ((with_reducible refine Mp.wpl_range (b := bc) (l := ec) ?_ ?_ Tryz.underlying96 HM2.out ?_); rfl; rfl; intro w3 hit ha; have HIT := Lib.hid hit; have HB3 : Hid (Below w2.heap.size w2 w3) := Lib.hid (by obtain ⟨o, rfl⟩ := ha; exact one_below _ _); clear hit ha; go_frame)
    | fail)
  obtain ⟨r, hr⟩ : ∃ r, r = w2.heap.size := ⟨_, rfl⟩
  have HRB : Hid (r ≠ bl ∧ w.heap.size ≤ r) := Lib.hid (by have := HMW.out.lt; have := HB2.out.size; omega)
  rw [← hr] at HIT ⊢
  clear hr
  have HND := Lib.hid HM2.out.nodup
  go_loopw [7, 8] (fun _ _ wr => ∃ cur todo : Mp.Ents, Mp.IterAt wr r bc ec todo ∧ Mp.MapAt wr bl cur ∧ LeftOf cur l m todo ∧ (∀ p ∈ todo, p ∈ ec) ∧ cur.length ≤ l.length ∧ Below w.heap.size w wr) (fun _ _ wr => Mp.itLeft wr r bc)
  case atStart => exact ⟨el, ec, HIT.out, HMW.out.same (HB3.out.block _ HMW.out.lt), leftOf_start HN1.out HN2.out, fun _ h => h, HE1.out, HB2.out.trans (HB3.out.mono HB2.out.size)⟩
  case round =>
    obtain ⟨cur, todo, hit, hmp, hd, hin, hle, hbel⟩ := hrel
    have HIT2 := Lib.hid hit
    have HMP := Lib.hid hmp
    have HD := Lib.hid hd
    have HIN := Lib.hid hin
    have HLE := Lib.hid hle
    have HBEL := Lib.hid hbel
    clear hit hmp hd hin hle hbel
    go_wp2_with (first
      | ((with_reducible refine Mp.wpl_next ?_ ?_ HIT2.out ?_ ?_); rfl; rfl)
      | fail)
    · intro h0
      subst h0
      have HCAN := Lib.hid (leftOf_can HD.out)
      have HDF := Lib.hid (delF_any cur (leftC l m) bl wr HMP.out (leftOf_end HD.out))
      go_wp2_with (first
        | ((with_reducible refine HDF.out.mono ?_); rintro e w5 ⟨es2, rfl, hm5, hc5, hl5, hb5⟩; have HB5 := Lib.hid (HBEL.out.trans (hb5.mono HBL.out)); have HRI := Lib.hid (rising_any es2 (leftL l m) bl w5 hm5 (left_cnt hc5 HCAN.out) (leftL_norm HCAN.out) (by have := HLL.out; have := HLE.out; omega)); clear hm5 hc5 hl5 hb5)
        | ((with_reducible refine HRI.out.mono ?_); rintro e w6 ⟨v6, rfl, ho6, hb6⟩; have HO6 := Lib.hid (ownsRow_base ho6 HB5.out.size); have HB6 := Lib.hid (HB5.out.trans (hb6.mono HB5.out.size)); clear ho6 hb6)
        | fail)
      go_ret2
      exact .inl ⟨HCAN.out, _, rfl, HO6.out, HB6.out⟩
    · intro key sv wc hmem hitc hgc hsc hen
      have HMEM := Lib.hid hmem
      have HITC := Lib.hid hitc
      have HNO := Lib.hid (mget_ne hmem)
      obtain ⟨c, hcv, hc0, hct⟩ := ent_val HN2.out HND.out (HIN.out _ hmem)
      simp only at hcv hct
      subst hcv
      have HMC := Lib.hid (HMP.out.same (hgc.block bl HMP.out.lt (fun e => by have := HRB.out.1; have e' := Option.some.inj e; omega)))
      have HBC : Hid (Below w.heap.size w wc) := Lib.hid (HBEL.out.grown hgc HBEL.out.size (fun k hk => by have := HRB.out.2; have e' := Option.some.inj hk; omega))
      have HSUB : Hid (∀ p ∈ Mp.mdel todo key, p ∈ ec) := Lib.hid fun p hp => HIN.out p (List.mem_filter.1 hp).1
      have HLT := Lib.hid (Mp.mdel_lt hmem)
      have HI0 := Lib.hid (Mp.itLeft_eq HIT2.out)
      have HGV := Lib.hid (leftOf_get HD.out HNO.out)
      have HPV := HPL.out key
      have HPC := HPM.out key
      have HS1 := Lib.hid (fun h1 h2 => leftOf_step (key := key) HD.out h1 h2)
      have HS2 := Lib.hid (fun h1 => leftOf_in (key := key) HD.out h1)
      have HCA : Hid (posTot l key < posTot m key → ¬ canTake l m) := Lib.hid fun h1 h2 => by have := h2 key; omega
      rw [hct] at HPC HS1 HCA
      generalize posTot l key = A at *
      clear hmem hitc hgc hsc hct
      by_cases hlt : A < c
      · have t1 : decide (A < c) = true := decide_eq_true hlt
        have HBAD := Lib.hid (HCA.out hlt)
        clear hlt HS1 HS2 HPV HPC
        go_wp2_with (first
          | ((with_reducible refine Mp.wpl_val (l := cur) (key := key) (v := .int .i64 A) ?_ ?_ ?_ Tryz.underlying96 Tryz.underlying9 (zeroInt _) HMC.out HGV.out ?_); rfl; rfl; rfl)
          | fail)
        go_ret2
        exact .inr ⟨HBAD.out, rfl, HBC.out⟩
      · have t1 : decide (A < c) = false := decide_eq_false hlt
        have HNX := Lib.hid (HS1.out hc0 (by omega))
        have HIC := Lib.hid (HS2.out (by omega))
        have eO : wrap64 (A - c) = A - c := wrap_q (by omega)
        clear hlt HS1 HS2 HPV HPC
        go_wp2_with (first
          | ((with_reducible refine Mp.wpl_val (l := cur) (key := key) (v := .int .i64 A) ?_ ?_ ?_ Tryz.underlying96 Tryz.underlying9 (zeroInt _) HMC.out HGV.out ?_); rfl; rfl; rfl)
          | ((with_reducible refine Mp.wpl_update (b := bl) (l := cur) (key := key) (v := .int .i64 (A - c)) ?_ ?_ ?_ ?_ Tryz.underlying96 Tryz.underlying9 HMC.out ?_); rfl; rfl; rfl; exact congrArg (Value.int .i64) eO; intro w5 hm5 hg5 hz5; have HM5 := Lib.hid hm5; have HG5 := Lib.hid hg5; clear hm5 hg5 hz5; go_frame)
          | fail)
        have HIT5 := Lib.hid (HITC.out.same (HG5.out.block r HITC.out.lt.1 (fun e => HRB.out.1 (Option.some.inj e))) (HG5.out.block bc HITC.out.lt.2 (fun e => HNE.out (Option.some.inj e).symm)))
        go_roundw
        case rel => exact ⟨_, _, HIT5.out, HM5.out, HNX.out, HSUB.out, by rw [Mp.mput_length_same _ HIC.out]; exact HLE.out, HBC.out.grown HG5.out HBC.out.size (fun k hk => by have := HBL.out; have e' := Option.some.inj hk; omega)⟩
        case measure =>
          rw [Mp.itLeft_eq HIT5.out, HI0.out]
          exact HLT.out
end Go.Proofs.YticnmmfiadpbbaaGreat.Sc
