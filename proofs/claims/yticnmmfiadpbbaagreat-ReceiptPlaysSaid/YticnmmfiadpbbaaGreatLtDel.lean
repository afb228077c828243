/- The entries of nothing deleted: the library's DeleteFunc at the program's closure, walked. -/
import Derived.Test.YticnmmfiadpbbaaGreatLtRise
import Derived.Test.YticnmmfiadpbbaaGreatMapD
namespace Go.Proofs.YticnmmfiadpbbaaGreat.Sc
open Go Go.RowKit Go.ChangeShapes Go.WideShapes Go.ChangeAt
set_option maxRecDepth 100000

def nz (x : Option Int) : Option Int := if x = some 0 then none else x
/-- What stands in the map while the range goes: entries of nothing that have come are gone. -/
def DelOf (cur : Mp.Ents) (C : ByteArray → Option Int) (todo : Mp.Ents) : Prop := ∀ n, Mp.mget cur n = (if Mp.mget todo n = none then nz (C n) else C n).map (Value.int .i64)
theorem delOf_start {es : Mp.Ents} {C : ByteArray → Option Int} (h : ∀ n, Mp.mget es n = (C n).map (Value.int .i64)) : DelOf es C es := fun n => by
  have h1 := h n
  by_cases h0 : Mp.mget es n = none
  · rw [if_pos h0]
    rw [h0] at h1
    have h2 : C n = none := by
      cases hc : C n with
      | none => rfl
      | some c => rw [hc] at h1; cases h1
    rw [h0, h2]
    rfl
  · rw [if_neg h0, h1]
theorem delOf_keep {cur todo : Mp.Ents} {C : ByteArray → Option Int} {key : ByteArray} {c : Int} (h : DelOf cur C todo) (hk : C key = some c) (hin : Mp.mget todo key ≠ none) (hc : ¬ c = 0) : DelOf cur C (Mp.mdel todo key) := fun n => by
  rw [Mp.mget_mdel, h n]
  by_cases hn : key = n
  · subst hn
    rw [if_neg hin, if_pos (if_pos rfl), nz, if_neg]
    rw [hk]
    exact fun e => hc (Option.some.inj e)
  · rw [if_neg hn]
theorem delOf_del {cur todo : Mp.Ents} {C : ByteArray → Option Int} {key : ByteArray} (h : DelOf cur C todo) (hk : C key = some 0) : DelOf (Mp.mdel cur key) C (Mp.mdel (Mp.mdel todo key) key) := fun n => by
  rw [Mp.mget_mdel, Mp.mget_mdel, Mp.mget_mdel, h n]
  by_cases hn : key = n
  · subst hn
    rw [if_pos rfl, if_pos rfl, if_pos rfl, nz, if_pos hk]
    rfl
  · rw [if_neg hn, if_neg hn, if_neg hn]
theorem delOf_end {cur : Mp.Ents} {C : ByteArray → Option Int} (h : DelOf cur C []) (n : ByteArray) : Mp.mget cur n = (nz (C n)).map (Value.int .i64) := by
  rw [h n, if_pos (show Mp.mget [] n = none from rfl)]
theorem mget_ne {l : Mp.Ents} {k : ByteArray} {v : Value} (h : (k, v) ∈ l) : Mp.mget l k ≠ none := fun e => Mp.mget_none.1 e (List.mem_map.2 ⟨_, h, rfl⟩)
set_option maxHeartbeats 2000000 in
theorem zero_any (k : ByteArray) (c : Int) (w : World) : Calls Tryz.prog 71 #[.string k, .int .i64 c] w (RetB w (decide (c = 0))) := by
  by_cases h : c = 0
  · subst h
    go_enter Tryz.func71, Tryz.ntmps71
    go_wp2_with fail
    go_ret
    exact ⟨rfl, Below.refl _ _⟩
  · have t1 : (c == 0) = false := by simp [h]
    rw [decide_eq_false h]
    clear h
    go_enter Tryz.func71, Tryz.ntmps71
    go_wp2_with fail
    go_ret
    exact ⟨rfl, Below.refl _ _⟩
def DelP (w : World) (b : Nat) (es : Mp.Ents) (C : ByteArray → Option Int) (e : Ending) (w' : World) : Prop := ∃ es2, e = .returned (.tuple #[]) ∧ Mp.MapAt w' b es2 ∧ (∀ n, Mp.mget es2 n = (nz (C n)).map (Value.int .i64)) ∧ es2.length ≤ es.length ∧ Below b w w'
set_option maxHeartbeats 8000000 in
theorem delF_any (es : Mp.Ents) (C : ByteArray → Option Int) (b : Nat) (w : World) (hm : Mp.MapAt w b es) (hC : ∀ n, Mp.mget es n = (C n).map (Value.int .i64)) :
    Calls Tryz.prog 70 #[.map (some b), .func (.func 71) #[] #[]] w (DelP w b es C) := by
  have HM := Lib.hid hm
  have HND := Lib.hid hm.nodup
  have HC := Lib.hid hC
  have HBL : Hid (b < w.heap.size) := Lib.hid hm.lt
  clear hm hC
  go_enter Tryz.func70, Tryz.ntmps70
  go_wp2_with (first
    | ((with_reducible refine Mp.wpl_range (b := b) (l := es) ?_ ?_ Tryz.underlying96 HM.out ?_); rfl; rfl; intro w1 hit ha; have HIT := Lib.hid hit; have HB1 : Hid (Below b w w1) := Lib.hid (by obtain ⟨o, rfl⟩ := ha; exact (one_below _ _).mono (Nat.le_of_lt HBL.out)); clear hit ha; go_frame)
    | fail)
  obtain ⟨r, hr⟩ : ∃ r, r = w.heap.size := ⟨_, rfl⟩
  have HR : Hid (b < r) := Lib.hid (by rw [hr]; exact HBL.out)
  rw [← hr] at HIT ⊢
  clear hr
  go_loopw [4, 5] (fun _ _ wr => ∃ cur todo : Mp.Ents, Mp.IterAt wr r b cur todo ∧ DelOf cur C todo ∧ (∀ p ∈ todo, p ∈ es) ∧ cur.length ≤ es.length ∧ Below b w wr) (fun _ _ wr => Mp.itLeft wr r b)
  case atStart => exact ⟨es, es, HIT.out, delOf_start HC.out, fun _ h => h, Nat.le_refl _, HB1.out⟩
  case round =>
    obtain ⟨cur, todo, hit, hd, hin, hle, hbel⟩ := hrel
    have HIT2 := Lib.hid hit
    have HD := Lib.hid hd
    have HIN := Lib.hid hin
    have HLE := Lib.hid hle
    have HBEL := Lib.hid hbel
    clear hit hd hin hle hbel
    go_wp2_with (first
      | ((with_reducible refine Mp.wpl_next ?_ ?_ HIT2.out ?_ ?_); rfl; rfl)
      | fail)
    · intro h0
      have HE := Lib.hid (delOf_end (h0 ▸ HD.out))
      clear h0
      go_wp2_with fail
      go_end0
      exact ⟨cur, rfl, HIT2.out.map, HE.out, HLE.out, HBEL.out⟩
    · intro key sv wc hmem hitc hgc hsc hen
      have HMEM := Lib.hid hmem
      have HITC := Lib.hid hitc
      have hg := Mp.mget_of_mem HND.out (HIN.out _ hmem)
      rw [HC.out key] at hg
      obtain ⟨c, hck, hcv⟩ : ∃ c, C key = some c ∧ sv = .int .i64 c := by
        cases hc : C key with
        | none => rw [hc] at hg; cases hg
        | some c => rw [hc] at hg; exact ⟨c, rfl, (Option.some.inj hg).symm⟩
      subst hcv
      have HCK := Lib.hid hck
      have HBC : Hid (Below b w wc) := Lib.hid (HBEL.out.grown hgc (Nat.le_trans (Nat.le_of_lt HBL.out) HBEL.out.size) (fun k hk => by have := HR.out; have e' := Option.some.inj hk; omega))
      have HZ := Lib.hid (zero_any key c wc)
      have HSUB : Hid (∀ p ∈ Mp.mdel todo key, p ∈ es) := Lib.hid fun p hp => HIN.out p (List.mem_filter.1 hp).1
      have HLT := Lib.hid (Mp.mdel_lt hmem)
      have HI0 := Lib.hid (Mp.itLeft_eq HIT2.out)
      have HCUR : Hid (Mp.mget cur key ≠ none) := Lib.hid (by
        rw [HD.out key, if_neg (mget_ne hmem), hck]
        exact fun e => by cases e)
      clear hmem hitc hgc hsc hg hck
      by_cases h0 : c = 0
      · subst h0
        have HDN := Lib.hid (delOf_del HD.out HCK.out)
        go_wp2_with (first
          | ((with_reducible refine HZ.out.mono ?_); rintro e w4 ⟨rfl, hb4⟩; rw [decide_eq_true rfl]; have HIT4 := Lib.hid (HITC.out.same (hb4.block _ HITC.out.lt.1) (hb4.block _ HITC.out.lt.2)); have HB4 := Lib.hid (HBC.out.trans (hb4.mono (Nat.le_trans (Nat.le_of_lt HBL.out) HBC.out.size))); clear hb4)
          | ((with_reducible refine Mp.wpl_delete (b := b) (key := key) ?_ ?_ ?_ Tryz.underlying96 Tryz.underlying9 HIT4.out HCUR.out ?_); rfl; rfl; rfl; intro w5 hi5 hg5 hz5; have HIT5 := Lib.hid hi5; have HB5 := Lib.hid (HB4.out.grown hg5 (Nat.le_trans (Nat.le_of_lt HBL.out) HB4.out.size) (fun k hk => Nat.le_of_eq (Option.some.inj hk))); clear hi5 hg5 hz5; go_frame)
          | fail)
        go_roundw
        case rel => exact ⟨_, _, HIT5.out, HDN.out, fun p hp => HSUB.out p (List.mem_filter.1 hp).1, Nat.le_trans (Mp.mdel_length_le _ _) HLE.out, HB5.out⟩
        case measure =>
          rw [Mp.itLeft_eq HIT5.out, HI0.out]
          exact Nat.lt_of_le_of_lt (Mp.mdel_length_le _ _) HLT.out
      · have HDN := Lib.hid (delOf_keep HD.out HCK.out (mget_ne HMEM.out) h0)
        have tz := decide_eq_false h0
        rw [tz] at HZ
        clear h0 tz
        go_wp2_with (first
          | ((with_reducible refine HZ.out.mono ?_); rintro e w4 ⟨rfl, hb4⟩; have HIT4 := Lib.hid (HITC.out.same (hb4.block _ HITC.out.lt.1) (hb4.block _ HITC.out.lt.2)); have HB4 := Lib.hid (HBC.out.trans (hb4.mono (Nat.le_trans (Nat.le_of_lt HBL.out) HBC.out.size))); clear hb4)
          | fail)
        go_roundw
        case rel => exact ⟨_, _, HIT4.out, HDN.out, HSUB.out, HLE.out, HB4.out⟩
        case measure =>
          rw [Mp.itLeft_eq HIT4.out, HI0.out]
          exact HLT.out
end Go.Proofs.YticnmmfiadpbbaaGreat.Sc
