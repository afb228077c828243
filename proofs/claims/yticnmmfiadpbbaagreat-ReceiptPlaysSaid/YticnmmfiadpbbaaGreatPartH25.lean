/- A receipt parted, by the program. -/
import Derived.Test.YticnmmfiadpbbaaGreatTell25
import Derived.Shelf.Abstract
import Derived.Test.YticnmmfiadpbbaaGreatAnyB
import Derived.Test.YticnmmfiadpbbaaGreatLays25z
namespace Go.Proofs.YticnmmfiadpbbaaGreat.Sc
open Go Go.RowKit Go.ChangeShapes Go.WideShapes Go.ChangeAt
set_option maxRecDepth 100000

/-- A part, as a row tells it: the value, and the lots that it reads. -/
abbrev Np := Value × List Lt
def NpAt (w : World) (v : Value) (L : List Np) : Prop := Sl w 1 v (L.map fun x => [x.1]) ∧ ∀ q ∈ L, Sl w 2 q.1 (q.2.map Lt.row)
theorem NpAt.below {w w' : World} {v : Value} {L : List Np} (h : NpAt w v L) (hw : Below w.heap.size w w') : NpAt w' v L := ⟨h.1.below hw (Nat.le_refl _), fun q hq => (h.2 q hq).below hw (Nat.le_refl _)⟩
def IdxP (w : World) (b : Bool) (e : Ending) (w' : World) : Prop := ∃ i : Int, e = .returned (.int .i64 i) ∧ decide (0 ≤ i) = b ∧ Below w.heap.size w w'
set_option maxHeartbeats 4000000 in
theorem indexNp {f : Np → Bool} (g : Nat) (cb : Array Value) (l : List Np) (v : Value) (w : World) (hs : Sl w 1 v (l.map fun x => [x.1])) (eg : ∀ args w, (callFunc g args).run Tryz.prog w = .ok (.enter g args) w)
    (hcl : ∀ W x, x ∈ l → Below w.heap.size w W → Calls Tryz.prog g (#[x.1] ++ cb) W (RetB W (f x))) :
    Calls Tryz.prog 65 #[v, .func (.func g) #[] cb] w (IdxP w (l.any f)) := by
  obtain ⟨a, c, rfl⟩ : ∃ a c, v = .slice a l.length c := by simpa using hs.shape
  have hll : l.length ≤ 9223372036854775807 := by have := hs.len_le; simp only [List.length_map, maxLen] at this; omega
  have HS := Lib.hid hs
  have HCL := Lib.hid hcl
  clear hs hcl
  go_enter Tryz.func65, Tryz.ntmps65
  go_wp2_with fail
  go_loopw [5, 8] (fun _ i wr => ∃ k : Nat, k ≤ l.length ∧ i = .int .i64 k ∧ l.any f = (l.drop k).any f ∧ Below w.heap.size w wr) (fun _ i _ => l.length - (intOf i).toNat)
  case atStart => exact ⟨0, Nat.zero_le _, rfl, rfl, Below.refl _ _⟩
  case round =>
    obtain ⟨k, hk, rfl, hrel, hbel⟩ := hrel
    have HBEL := Lib.hid hbel
    by_cases hlt : k < l.length
    · obtain ⟨b, off, rfl, -, hb, hc⟩ := HS.out.at (i := k) (by simpa using hlt)
      have d0 := (hbel.cell (p := ⟨b, off + k * 1, none⟩) hb).trans (hc k [(fun x : Np => x.1) l[k]] (by simp [hlt]) 0 _ rfl)
      rw [Nat.mul_one] at d0
      rw [any_next hlt] at hrel
      have HC := Lib.hid (HCL.out wr l[k] (List.getElem_mem hlt) hbel)
      have tk : ((k : Nat) : Int) < (l.length : Int) := by omega
      generalize l[k] = x at *
      simp only at d0
      clear hb hc hbel
      generalize hr : f x = r at *
      clear hr
      cases r
      · have HR := Lib.hid hrel
        clear hrel
        go_wp2_with (first
          | (go_at_fn g; refine HC.out.mono ?_; rintro e w2 ⟨rfl, hb2⟩; have HB2 := Lib.hid (HBEL.out.trans (hb2.mono HBEL.out.size)); clear hb2)
          | fail)
        go_roundw
        case rel => exact ⟨k + 1, by omega, by go_num, by rw [HR.out]; rfl, HB2.out⟩
        case measure => (simp [intOf]) <;> omega
      · have HR := Lib.hid hrel
        clear hrel
        go_wp2_with (first
          | (go_at_fn g; refine HC.out.mono ?_; rintro e w2 ⟨rfl, hb2⟩; have HB2 := Lib.hid (HBEL.out.trans (hb2.mono HBEL.out.size)); clear hb2)
          | fail)
        go_ret
        exact ⟨k, rfl, by rw [HR.out]; simp, HB2.out⟩
    · have HE : Hid (l.any f = false) := Lib.hid (by rw [hrel, List.drop_of_length_le (by omega)]; rfl)
      clear hrel hbel hk
      go_wp2_with fail
      go_ret
      exact ⟨-1, rfl, by rw [HE.out]; rfl, HBEL.out⟩
theorem containsNp {f : Np → Bool} (g : Nat) (cb : Array Value) (l : List Np) (v : Value) (w : World) (hs : Sl w 1 v (l.map fun x => [x.1])) (eg : ∀ args w, (callFunc g args).run Tryz.prog w = .ok (.enter g args) w)
    (hcl : ∀ W x, x ∈ l → Below w.heap.size w W → Calls Tryz.prog g (#[x.1] ++ cb) W (RetB W (f x))) :
    Calls Tryz.prog 38 #[v, .func (.func g) #[] cb] w (RetB w (l.any f)) := by
  have HI := Lib.hid (indexNp g cb l v w hs eg hcl)
  obtain ⟨a, c, rfl⟩ : ∃ a c, v = .slice a l.length c := by simpa using hs.shape
  clear hs hcl eg
  go_enter Tryz.func38, Tryz.ntmps38
  go_wp2_with (first
    | ((with_reducible refine HI.out.mono ?_); rintro e w2 ⟨i, rfl, hi, hb2⟩; have HB2 := Lib.hid hb2; have HQ := Lib.hid hi; clear hb2 hi)
    | fail)
  go_ret
  exact ⟨by rw [← HQ.out]; rfl, HB2.out⟩
set_option maxHeartbeats 4000000 in
theorem indexSt {f : ByteArray → Bool} (g : Nat) (cb : Array Value) (l : List ByteArray) (v : Value) (w : World) (hs : Sl w 1 v (l.map fun x => [.string x])) (eg : ∀ args w, (callFunc g args).run Tryz.prog w = .ok (.enter g args) w)
    (hcl : ∀ W x, x ∈ l → Below w.heap.size w W → Calls Tryz.prog g (#[.string x] ++ cb) W (RetB W (f x))) :
    Calls Tryz.prog 66 #[v, .func (.func g) #[] cb] w (IdxP w (l.any f)) := by
  obtain ⟨a, c, rfl⟩ : ∃ a c, v = .slice a l.length c := by simpa using hs.shape
  have hll : l.length ≤ 9223372036854775807 := by have := hs.len_le; simp only [List.length_map, maxLen] at this; omega
  have HS := Lib.hid hs
  have HCL := Lib.hid hcl
  clear hs hcl
  go_enter Tryz.func66, Tryz.ntmps66
  go_wp2_with fail
  go_loopw [5, 8] (fun _ i wr => ∃ k : Nat, k ≤ l.length ∧ i = .int .i64 k ∧ l.any f = (l.drop k).any f ∧ Below w.heap.size w wr) (fun _ i _ => l.length - (intOf i).toNat)
  case atStart => exact ⟨0, Nat.zero_le _, rfl, rfl, Below.refl _ _⟩
  case round =>
    obtain ⟨k, hk, rfl, hrel, hbel⟩ := hrel
    have HBEL := Lib.hid hbel
    by_cases hlt : k < l.length
    · obtain ⟨b, off, rfl, -, hb, hc⟩ := HS.out.at (i := k) (by simpa using hlt)
      have d0 := (hbel.cell (p := ⟨b, off + k * 1, none⟩) hb).trans (hc k [(fun x : ByteArray => .string x) l[k]] (by simp [hlt]) 0 _ rfl)
      rw [Nat.mul_one] at d0
      rw [any_next hlt] at hrel
      have HC := Lib.hid (HCL.out wr l[k] (List.getElem_mem hlt) hbel)
      have tk : ((k : Nat) : Int) < (l.length : Int) := by omega
      generalize l[k] = x at *
      simp only at d0
      clear hb hc hbel
      generalize hr : f x = r at *
      clear hr
      cases r
      · have HR := Lib.hid hrel
        clear hrel
        go_wp2_with (first
          | (go_at_fn g; refine HC.out.mono ?_; rintro e w2 ⟨rfl, hb2⟩; have HB2 := Lib.hid (HBEL.out.trans (hb2.mono HBEL.out.size)); clear hb2)
          | fail)
        go_roundw
        case rel => exact ⟨k + 1, by omega, by go_num, by rw [HR.out]; rfl, HB2.out⟩
        case measure => (simp [intOf]) <;> omega
      · have HR := Lib.hid hrel
        clear hrel
        go_wp2_with (first
          | (go_at_fn g; refine HC.out.mono ?_; rintro e w2 ⟨rfl, hb2⟩; have HB2 := Lib.hid (HBEL.out.trans (hb2.mono HBEL.out.size)); clear hb2)
          | fail)
        go_ret
        exact ⟨k, rfl, by rw [HR.out]; simp, HB2.out⟩
    · have HE : Hid (l.any f = false) := Lib.hid (by rw [hrel, List.drop_of_length_le (by omega)]; rfl)
      clear hrel hbel hk
      go_wp2_with fail
      go_ret
      exact ⟨-1, rfl, by rw [HE.out]; rfl, HBEL.out⟩
theorem containsSt {f : ByteArray → Bool} (g : Nat) (cb : Array Value) (l : List ByteArray) (v : Value) (w : World) (hs : Sl w 1 v (l.map fun x => [.string x])) (eg : ∀ args w, (callFunc g args).run Tryz.prog w = .ok (.enter g args) w)
    (hcl : ∀ W x, x ∈ l → Below w.heap.size w W → Calls Tryz.prog g (#[.string x] ++ cb) W (RetB W (f x))) :
    Calls Tryz.prog 43 #[v, .func (.func g) #[] cb] w (RetB w (l.any f)) := by
  have HI := Lib.hid (indexSt g cb l v w hs eg hcl)
  obtain ⟨a, c, rfl⟩ : ∃ a c, v = .slice a l.length c := by simpa using hs.shape
  clear hs hcl eg
  go_enter Tryz.func43, Tryz.ntmps43
  go_wp2_with (first
    | ((with_reducible refine HI.out.mono ?_); rintro e w2 ⟨i, rfl, hi, hb2⟩; have HB2 := Lib.hid hb2; have HQ := Lib.hid hi; clear hb2 hi)
    | fail)
  go_ret
  exact ⟨by rw [← HQ.out]; rfl, HB2.out⟩end Go.Proofs.YticnmmfiadpbbaaGreat.Sc
namespace Go.Proofs.YticnmmfiadpbbaaGreat.Sc
open Go Go.RowKit Go.ChangeShapes Go.WideShapes Go.ChangeAt
set_option maxRecDepth 100000

set_option maxHeartbeats 4000000 in
theorem numbersMay_any (ns : List ByteArray) (v : Value) (w : World) (hs : Sl w 1 v (ns.map stRow)) (hl : ns.length ≤ 100000) : Calls Tryz.prog 37 #[v] w (RetB w (numsOk ns)) := by
  obtain ⟨a, c, rfl⟩ : ∃ a c, v = .slice a ns.length c := by simpa using hs.shape
  have hll : ns.length ≤ 9223372036854775807 := by omega
  have HS := Lib.hid hs
  have HL := Lib.hid hl
  have tm : ∀ W : World, (Instr.makeMap 59 (some (.int .i64 (ns.length : Int)))).run Tryz.prog W = .ok (.map (some W.heap.size)) (W.alloc (.map #[] 0)) := fun W => by
    simp [Instr.makeMap, run_underlying Tryz.underlying59, asInt, asIntOf, Result.andThen]
  have HM0 := Lib.hid (Mp.MapAt.made w)
  have HNM := Lib.hid (fun n W => rcName_any n W)
  obtain ⟨R, hR⟩ : ∃ R, R = numsOk ns := ⟨_, rfl⟩
  have HR := Lib.hid hR
  rw [← hR]
  clear hs hl hR
  go_enter Tryz.func37, Tryz.ntmps37
  go_wp2_with fail
  obtain ⟨bm, hbm⟩ : ∃ b, b = w.heap.size := ⟨_, rfl⟩
  rw [← hbm] at HM0 ⊢
  have HBM : Hid (w.heap.size ≤ bm) := Lib.hid (by omega)
  clear hbm tm
  go_loopw [5, 11] (fun _ i wr => ∃ (k : Nat) (es : Mp.Ents), k ≤ ns.length ∧ i = .int .i64 k ∧ Mp.MapAt wr bm es ∧ (∀ n, Mp.mget es n = if memB n (ns.take k) = true then some (.bool true) else none) ∧ numsOk ns = numsFrom (ns.take k) (ns.drop k) ∧ Below w.heap.size w wr) (fun _ i _ => ns.length - (intOf i).toNat)
  case atStart => exact ⟨0, [], Nat.zero_le _, rfl, HM0.out, fun n => rfl, rfl, one_below _ _⟩
  case round =>
    obtain ⟨k, es, hk, rfl, hm, hen, hnf, hbel⟩ := hrel
    have HBEL := Lib.hid hbel
    have HM := Lib.hid hm
    have HEN := Lib.hid hen
    by_cases hlt : k < ns.length
    · obtain ⟨b, off, rfl, -, hb, hc⟩ := HS.out.at (i := k) (by simpa using hlt)
      have d0 := (hbel.cell (p := ⟨b, off + k * 1, none⟩) hb).trans (hc k (stRow ns[k]) (by simp [hlt]) 0 _ rfl)
      rw [Nat.mul_one] at d0
      have HTK : Hid (ns.take (k + 1) = ns.take k ++ [ns[k]]) := Lib.hid (List.take_succ_eq_append_getElem hlt)
      rw [List.drop_eq_getElem_cons hlt, numsFrom] at hnf
      have HGT : Hid (Mp.look false (Mp.mget es ns[k]) (.bool false) = .bool (memB ns[k] (ns.take k))) := Lib.hid (by rw [hen]; cases memB ns[k] (ns.take k) <;> rfl)
      generalize ns[k] = x at *
      have HNF := Lib.hid hnf
      have HNX := Lib.hid (HNM.out x)
      obtain ⟨p, hp⟩ : ∃ p, p = nameOk x := ⟨_, rfl⟩
      obtain ⟨q, hq⟩ : ∃ q, q = memB x (ns.take k) := ⟨_, rfl⟩
      rw [← hp, ← hq] at HNF
      rw [← hp] at HNX
      rw [← hq] at HGT
      clear hc hbel hm hen hnf hb hp hq
      cases p
      · have HQ : Hid (R = false) := Lib.hid (by rw [HR.out, HNF.out]; rfl)
        go_wp2_with (first
          | ((with_reducible refine (HNX.out _).mono ?_); rintro e w1 ⟨rfl, hb1⟩; have HB1 := Lib.hid hb1; clear hb1)
          | fail)
        go_ret
        exact retB HQ.out.symm (HBEL.out.trans (HB1.out.mono HBEL.out.size))
      cases q
      · have HQ : Hid (numsOk ns = numsFrom (ns.take (k + 1)) (ns.drop (k + 1))) := Lib.hid (by rw [HTK.out, HNF.out]; rfl)
        have HEN2 : Hid (∀ n, Mp.mget (Mp.mput es x (.bool true)) n = if memB n (ns.take (k + 1)) = true then some (.bool true) else none) := Lib.hid (fun n => by
          rw [HTK.out]
          by_cases e : n = x
          · subst e
            rw [Mp.mget_mput_same, if_pos (memB_iff.2 (by simp))]
          · rw [Mp.mget_mput_other _ _ e, HEN.out]
            have : memB n (ns.take k ++ [x]) = memB n (ns.take k) := by rw [Bool.eq_iff_iff, memB_iff, memB_iff]; simp [e]
            rw [this])
        go_wp2_with (first
          | ((with_reducible refine (HNX.out _).mono ?_); rintro e w1 ⟨rfl, hb1⟩; have HB1 := Lib.hid hb1; have HM1 := Lib.hid (HM.out.same (hb1.block _ HM.out.lt)); clear hb1)
          | ((with_reducible refine Mp.wpl_lookup (b := bm) (l := es) (key := x) ?_ ?_ ?_ Tryz.underlying59 Tryz.underlying9 (zeroBool _) HM1.out ?_); rfl; rfl; rfl; rw [HGT.out])
          | ((with_reducible refine Mp.wpl_update (b := bm) (l := es) (key := x) (v := .bool true) ?_ ?_ ?_ ?_ Tryz.underlying59 Tryz.underlying9 HM1.out ?_); rfl; rfl; rfl; rfl; intro w5 hm5 hg5 hz5; have HM5 := Lib.hid hm5; have HG5 := Lib.hid hg5; clear hm5 hg5 hz5; go_frame)
          | fail)
        go_roundw
        case rel => exact ⟨k + 1, _, by omega, by go_num, HM5.out, HEN2.out, HQ.out, (HBEL.out.trans (HB1.out.mono HBEL.out.size)).grown HG5.out (Nat.le_trans HBEL.out.size HB1.out.size) (fun j hj => by obtain rfl : bm = j := Option.some.inj hj; exact HBM.out)⟩
        case measure => (simp [intOf]) <;> omega
      · have HQ : Hid (R = false) := Lib.hid (by rw [HR.out, HNF.out]; rfl)
        go_wp2_with (first
          | ((with_reducible refine (HNX.out _).mono ?_); rintro e w1 ⟨rfl, hb1⟩; have HB1 := Lib.hid hb1; have HM1 := Lib.hid (HM.out.same (hb1.block _ HM.out.lt)); clear hb1)
          | ((with_reducible refine Mp.wpl_lookup (b := bm) (l := es) (key := x) ?_ ?_ ?_ Tryz.underlying59 Tryz.underlying9 (zeroBool _) HM1.out ?_); rfl; rfl; rfl; rw [HGT.out])
          | fail)
        go_ret
        exact retB HQ.out.symm (HBEL.out.trans (HB1.out.mono HBEL.out.size))
    · have HQ : Hid (R = true) := Lib.hid (by rw [HR.out, hnf, List.drop_of_length_le (by omega)]; rfl)
      clear hbel hm hen hnf
      go_wp2_with fail
      go_ret
      exact retB HQ.out.symm HBEL.out
theorem part11 (l : List Lt) (v : Value) (w : World) (hs : Sl w 2 v (l.map Lt.row)) : Calls Tryz.prog 39 #[v] w (RetB w (!lotsOk l)) := by
  have HLO := Lib.hid (lotsMay_any l v w hs)
  obtain ⟨al, cl, rfl⟩ : ∃ a c, v = .slice a l.length c := by simpa using hs.shape
  generalize lotsOk l = R at *
  clear hs
  go_enter Tryz.func39, Tryz.ntmps39
  go_wp2_with (first
    | ((with_reducible refine HLO.out.mono ?_); rintro e w1 ⟨rfl, hb1⟩; have HB1 := Lib.hid hb1; clear hb1)
    | fail)
  go_ret
  exact retB rfl HB1.out
theorem part21 (l : List Lt) (v : Value) (w : World) (hs : Sl w 2 v (l.map Lt.row)) : Calls Tryz.prog 41 #[v] w (RetB w (decide (64 < l.length))) := by
  obtain ⟨al, cl, rfl⟩ : ∃ a c, v = .slice a l.length c := by simpa using hs.shape
  have hll : l.length ≤ 9223372036854775807 := by have := hs.len_le; simp only [List.length_map, maxLen] at this; omega
  clear hs
  go_enter Tryz.func41, Tryz.ntmps41
  go_wp2
  go_ret
  exact retB (by rw [Bool.eq_iff_iff]; simp <;> omega) (Below.refl _ _)
theorem pt_ent11 (args : Array Value) (w : World) : (callFunc 39 args).run Tryz.prog w = .ok (.enter 39 args) w := enters_of Tryz.func39 (by kernel_rfl) rfl args w
theorem pt_ent21 (args : Array Value) (w : World) : (callFunc 41 args).run Tryz.prog w = .ok (.enter 41 args) w := enters_of Tryz.func41 (by kernel_rfl) rfl args w
theorem pt_ent31 (args : Array Value) (w : World) : (callFunc 44 args).run Tryz.prog w = .ok (.enter 44 args) w := enters_of Tryz.func44 (by kernel_rfl) rfl args w
def npSnd (L : List Np) : List (List Lt) := L.map Prod.snd
theorem np_any (L : List Np) (f : List Lt → Bool) : (npSnd L).any f = L.any fun q => f q.2 := by simp [npSnd, List.any_map, Function.comp_def]
theorem np_len (L : List Np) : (npSnd L).length = L.length := by simp [npSnd]
theorem noParts_any (L : List Np) (v : Value) (w : World) (h : NpAt w v L) : Calls Tryz.prog 38 #[v, .func (.func 39) #[] #[]] w (RetB w ((npSnd L).any fun p => !lotsOk p)) := by
  rw [np_any]
  exact containsNp _ #[] L v w h.1 pt_ent11 fun W x hx hb => part11 x.2 x.1 W ((h.2 x hx).below hb (Nat.le_refl _))
theorem bigParts_any (L : List Np) (v : Value) (w : World) (h : NpAt w v L) : Calls Tryz.prog 38 #[v, .func (.func 41) #[] #[]] w (RetB w ((npSnd L).any fun p => decide (64 < p.length))) := by
  rw [np_any]
  exact containsNp _ #[] L v w h.1 pt_ent21 fun W x hx hb => part21 x.2 x.1 W ((h.2 x hx).below hb (Nat.le_refl _))
end Go.Proofs.YticnmmfiadpbbaaGreat.Sc
namespace Go.Proofs.YticnmmfiadpbbaaGreat.Sc
open Go Go.RowKit Go.ChangeShapes Go.WideShapes Go.ChangeAt
set_option maxRecDepth 100000

set_option maxHeartbeats 1000000 in
theorem part31 {bh bm bu : Nat} {h : Hs} {es us : Mp.Ents} (s : ByteArray) (b5 : Nat) (W : World) (H : HsAt W bh bm bu h es us) (h5 : B1 W b5 (.pointer (some ⟨bh, 0, none⟩)) 25) :
    Calls Tryz.prog 44 #[.string s, .pointer (some ⟨b5, 0, none⟩)] W (RetB W (memB s h.used)) := by
  have HGT := Lib.hid (look_used H s)
  have c5 := cell_blk h5 0
  have x2 := cell_blk H.box 2
  simp only [List.getElem?_toArray, List.getElem?_cons_succ, List.getElem?_cons_zero] at c5 x2
  have HUM := Lib.hid H.um
  generalize memB s h.used = MB at *
  clear h5 H
  go_enter Tryz.func44, Tryz.ntmps44
  go_wp2_with (first
    | ((with_reducible refine Mp.wpl_lookup (b := bu) (l := us) (key := s) ?_ ?_ ?_ Tryz.underlying59 Tryz.underlying9 (zeroBool _) HUM.out ?_); rfl; rfl; rfl; rw [HGT.out])
    | fail)
  go_ret
  exact retB rfl (Below.refl _ _)
set_option maxHeartbeats 1000000 in
theorem part3 {bh bm bu : Nat} {h : Hs} {es us : Mp.Ents} (ns : List ByteArray) (vn : Value) (b7 b5 : Nat) (W : World) (H : HsAt W bh bm bu h es us) (h7 : B1 W b7 vn 27) (h5 : B1 W b5 (.pointer (some ⟨bh, 0, none⟩)) 25) (hs : Sl W 1 vn (ns.map stRow)) :
    Calls Tryz.prog 42 #[.pointer (some ⟨b7, 0, none⟩), .pointer (some ⟨b5, 0, none⟩)] W (RetB W (ns.any fun n => memB n h.used)) := by
  have HC := Lib.hid (containsSt (f := fun n => memB n h.used) 44 #[.pointer (some ⟨b5, 0, none⟩)] ns vn W hs pt_ent31 fun W' x _ hb => part31 x b5 W' (H.below hb) (blk hb (lt_blk h5) h5))
  obtain ⟨an, cn, rfl⟩ : ∃ a c, vn = .slice a ns.length c := by simpa using hs.shape
  have c7 := cell_blk h7 0
  simp only [List.getElem?_toArray, List.getElem?_cons_zero] at c7
  generalize (ns.any fun n => memB n h.used) = R at *
  clear hs h5 h7 H
  go_enter Tryz.func42, Tryz.ntmps42
  go_wp2_with (first
    | ((with_reducible refine HC.out.mono ?_); rintro e w1 ⟨rfl, hb1⟩; have HB1 := Lib.hid hb1; clear hb1)
    | fail)
  go_ret
  exact retB rfl HB1.out
set_option maxHeartbeats 2000000 in
theorem part1 (ns : List ByteArray) (L : List Np) (vn vp : Value) (b8 b7 : Nat) (W : World) (h8 : B1 W b8 vp 41) (h7 : B1 W b7 vn 27) (hn : Sl W 1 vn (ns.map stRow)) (hp : NpAt W vp L) (hl : ns.length ≤ 100000) :
    Calls Tryz.prog 36 #[.pointer (some ⟨b8, 0, none⟩), .pointer (some ⟨b7, 0, none⟩)] W (RetB W (partArg ns (npSnd L))) := by
  have HNM := Lib.hid (numbersMay_any ns vn W hn hl)
  have HNP := Lib.hid (fun W' (hb : Below W.heap.size W W') => noParts_any L vp W' (hp.below hb))
  obtain ⟨an, cn, rfl⟩ : ∃ a c, vn = .slice a ns.length c := by simpa using hn.shape
  obtain ⟨ap, cp, rfl⟩ : ∃ a c, vp = .slice a L.length c := by simpa using hp.1.shape
  have hll : L.length ≤ 9223372036854775807 := by have := hp.1.len_le; simp only [List.length_map, maxLen] at this; omega
  have hnl : ns.length ≤ 9223372036854775807 := by omega
  have H8 := Lib.hid h8
  have c8 := cell_blk h8 0
  have c7 := cell_blk h7 0
  simp only [List.getElem?_toArray, List.getElem?_cons_zero] at c7 c8
  obtain ⟨R, hR⟩ : ∃ R, R = partArg ns (npSnd L) := ⟨_, rfl⟩
  rw [← hR]
  unfold partArg at hR
  rw [np_len] at hR
  have HR := Lib.hid hR
  generalize numsOk ns = p at *
  generalize ((npSnd L).any fun p => !lotsOk p) = q at *
  clear hn hp h7 h8 hR
  by_cases h1 : L.length < 2
  · have t1 : decide ((L.length : Int) < 2) = true := decide_eq_true (by omega)
    have HQ : Hid (R = true) := Lib.hid (by rw [HR.out, decide_eq_true h1]; rfl)
    clear h1
    go_enter Tryz.func36, Tryz.ntmps36
    go_wp2_with fail
    go_ret
    exact retB HQ.out.symm (Below.refl _ _)
  have t1 : decide ((L.length : Int) < 2) = false := decide_eq_false (by omega)
  have HF1 := Lib.hid (decide_eq_false h1)
  clear h1
  by_cases h2 : ns.length = L.length
  rotate_left
  · have t2 : ((ns.length : Int) != (L.length : Int)) = true := by rw [bne_iff_ne]; omega
    have HQ : Hid (R = true) := Lib.hid (by rw [HR.out, HF1.out, decide_eq_false h2]; rfl)
    clear h2
    go_enter Tryz.func36, Tryz.ntmps36
    go_wp2_with fail
    go_ret
    exact retB HQ.out.symm (Below.refl _ _)
  have t2 : ((ns.length : Int) != (L.length : Int)) = false := by rw [bne_eq_false_iff_eq]; omega
  have HF2 := Lib.hid (decide_eq_true h2)
  clear h2
  cases p
  · have HQ : Hid (R = true) := Lib.hid (by rw [HR.out, HF1.out, HF2.out]; rfl)
    go_enter Tryz.func36, Tryz.ntmps36
    go_wp2_with (first
      | ((with_reducible refine HNM.out.mono ?_); rintro e w1 ⟨rfl, hb1⟩; have HB1 := Lib.hid hb1; clear hb1)
      | fail)
    go_ret
    exact retB HQ.out.symm HB1.out
  have HQ : Hid (R = q) := Lib.hid (by rw [HR.out, HF1.out, HF2.out]; rfl)
  go_enter Tryz.func36, Tryz.ntmps36
  go_wp2_with (first
    | ((with_reducible refine HNM.out.mono ?_); rintro e w1 ⟨rfl, hb1⟩; have HB1 := Lib.hid hb1; have d8 := cell_blk (blk hb1 (lt_blk H8.out) H8.out) 0; simp only [List.getElem?_toArray, List.getElem?_cons_zero] at d8; clear hb1)
    | ((with_reducible refine (HNP.out _ HB1.out).mono ?_); rintro e w2 ⟨rfl, hb2⟩; have HB2 := Lib.hid (HB1.out.trans (hb2.mono HB1.out.size)); clear hb2)
    | fail)
  go_ret
  exact retB HQ.out.symm HB2.out
/-- As the program asks: by the number of the numbers. -/
def fullN (h : Hs) (m : Nat) (ps : List (List Lt)) : Bool := decide (64 < ps.length) || (decide (4096 < h.used.length + m) || ps.any fun p => decide (64 < p.length))
set_option maxHeartbeats 2000000 in
theorem part2 {bh bm bu : Nat} {h : Hs} {es us : Mp.Ents} (ns : List ByteArray) (L : List Np) (vn vp : Value) (b8 b5 b7 : Nat) (w : World) (H : HsAt w bh bm bu h es us) (h8 : B1 w b8 vp 41) (h5 : B1 w b5 (.pointer (some ⟨bh, 0, none⟩)) 25)
    (h7 : B1 w b7 vn 27) (hn : Sl w 1 vn (ns.map stRow)) (hp : NpAt w vp L) (hl : ns.length ≤ 100000) (hul : h.used.length ≤ 900000) :
    Calls Tryz.prog 40 #[.pointer (some ⟨b8, 0, none⟩), .pointer (some ⟨b5, 0, none⟩), .pointer (some ⟨b7, 0, none⟩)] w (RetB w (fullN h ns.length (npSnd L))) := by
  have HQC := Lib.hid (fun W' (hb : Below w.heap.size w W') => bigParts_any L vp W' (hp.below hb))
  obtain ⟨an, cn, rfl⟩ : ∃ a c, vn = .slice a ns.length c := by simpa using hn.shape
  obtain ⟨ap, cp, rfl⟩ : ∃ a c, vp = .slice a L.length c := by simpa using hp.1.shape
  have hll : L.length ≤ 9223372036854775807 := by have := hp.1.len_le; simp only [List.length_map, maxLen] at this; omega
  have hnl : ns.length ≤ 9223372036854775807 := by omega
  have H8 := Lib.hid h8
  have H7 := Lib.hid h7
  have H5 := Lib.hid h5
  have HBX := Lib.hid H.box
  have HUM := Lib.hid H.um
  obtain ⟨uL, huL⟩ : ∃ u, u = us.length := ⟨_, rfl⟩
  have hue := H.ul
  have HUE : Hid (h.used.length = uL) := Lib.hid (by rw [huL]; exact hue.symm)
  have HEQ := Lib.hid huL
  rw [HUE.out] at hul
  obtain ⟨R, hR⟩ : ∃ R, R = fullN h ns.length (npSnd L) := ⟨_, rfl⟩
  rw [← hR]
  unfold fullN at hR
  rw [np_len, HUE.out] at hR
  have HR := Lib.hid hR
  have ew : wrap64 ((uL : Int) + (ns.length : Int)) = (uL : Int) + (ns.length : Int) := wrap_q (by omega)
  generalize ((npSnd L).any fun p => decide (64 < p.length)) = q at *
  clear hn hp h7 h8 h5 hR huL hue H
  by_cases h1 : 64 < L.length
  · have t1 : decide ((64 : Int) < (L.length : Int)) = true := decide_eq_true (by omega)
    have HV : Hid (true = R) := Lib.hid (by rw [HR.out, decide_eq_true h1]; rfl)
    clear h1
    go_enter Tryz.func40, Tryz.ntmps40
    go_wp2_with fail
    refine Any.region_lit (fun
      | 0 => Any.val (.slice ap L.length cp)
      | 1 => Any.val (.int .i64 L.length)
      | 2 => Any.val (.bool true)
      | 3 => Any.val (.bool true)
      | 4 => Any.idle
      | 5 => Any.idle
      | 6 => Any.idle
      | 7 => Any.idle
      | 8 => Any.idle
      | 9 => Any.idle
      | 10 => Any.idle
      | 11 => Any.idle
      | 12 => Any.idle
      | 13 => Any.val (.bool true)
      | 14 => Any.val (.bool true)
      | 15 => Any.idle
      | 16 => Any.idle
      | 17 => Any.val (.bool true)
      | 18 => Any.val (.bool true)
      | _ => Any.idle) (by kernel_rfl) (by kernel_rfl) (by kernel_rfl) ?_ ?_ ?_
    · intro i _
      match i with
      | 0 => exact Any.lasts_val _
      | 1 => exact Any.lasts_val _
      | 2 => exact Any.lasts_val _
      | 3 => exact Any.lasts_val _
      | 4 => exact Any.lasts_idle
      | 5 => exact Any.lasts_idle
      | 6 => exact Any.lasts_idle
      | 7 => exact Any.lasts_idle
      | 8 => exact Any.lasts_idle
      | 9 => exact Any.lasts_idle
      | 10 => exact Any.lasts_idle
      | 11 => exact Any.lasts_idle
      | 12 => exact Any.lasts_idle
      | 13 => exact Any.lasts_val _
      | 14 => exact Any.lasts_val _
      | 15 => exact Any.lasts_idle
      | 16 => exact Any.lasts_idle
      | 17 => exact Any.lasts_val _
      | 18 => exact Any.lasts_val _
      | n + 19 => exact Any.lasts_idle
    · refine ⟨?_, ?_, ?_, ?_, ?_, ?_, ?_, ?_, ?_, ?_, ?_, ?_, ?_, ?_, ?_, ?_, ?_, ?_, ?_, trivial⟩
      · refine Any.owes_plain rfl fun ρ wo hs' hb hc' => ?_
        have h0 : ρ (.tmp 0) = .pointer (some ⟨b8, 0, none⟩) := hs'.old' 0 (by kernel_rfl)
        have c0 := cell_blk (blk (below_undrew hb) (lt_blk H8.out) H8.out) 0
        simp only [List.getElem?_toArray, List.getElem?_cons_zero] at c0
        go_simp
        exact Any.post_val hb rfl rfl
      · refine Any.owes_plain rfl fun ρ wo hs' hb hc' => ?_
        have h4 : ρ (.tmp 4) = .slice ap L.length cp := hs'.new' 4 0 (by kernel_rfl)
        go_simp
        exact Any.post_val hb rfl rfl
      · refine Any.owes_plain rfl fun ρ wo hs' hb hc' => ?_
        have h5 : ρ (.tmp 5) = .int .i64 L.length := hs'.new' 5 1 (by kernel_rfl)
        go_simp
        exact Any.post_val hb rfl rfl
      · refine Any.owes_plain rfl fun ρ wo hs' hb hc' => ?_
        have h6 : ρ (.tmp 6) = .bool true := hs'.new' 6 2 (by kernel_rfl)
        go_simp
        exact Any.post_val hb rfl rfl
      · exact Any.owes_off rfl rfl (by kernel_rfl) rfl (by decide) rfl
      · exact Any.owes_off rfl rfl (by kernel_rfl) rfl (by decide) rfl
      · exact Any.owes_off rfl rfl (by kernel_rfl) rfl (by decide) rfl
      · exact Any.owes_off rfl rfl (by kernel_rfl) rfl (by decide) rfl
      · exact Any.owes_off rfl rfl (by kernel_rfl) rfl (by decide) rfl
      · exact Any.owes_off rfl rfl (by kernel_rfl) rfl (by decide) rfl
      · exact Any.owes_off rfl rfl (by kernel_rfl) rfl (by decide) rfl
      · exact Any.owes_off rfl rfl (by kernel_rfl) rfl (by decide) rfl
      · exact Any.owes_off rfl rfl (by kernel_rfl) rfl (by decide) rfl
      · refine Any.owes_plain rfl fun ρ wo hs' hb hc' => ?_
        have h7 : ρ (.tmp 7) = .bool true := hs'.new' 7 3 (by kernel_rfl)
        go_simp
        exact Any.post_val hb rfl rfl
      · refine Any.owes_plain rfl fun ρ wo hs' hb hc' => ?_
        have h17 : ρ (.tmp 17) = .bool true := hs'.new' 17 13 (by kernel_rfl)
        go_simp
        exact Any.post_val hb rfl rfl
      · exact Any.owes_off rfl rfl (by kernel_rfl) rfl (by decide) rfl
      · exact Any.owes_off rfl rfl (by kernel_rfl) rfl (by decide) rfl
      · refine Any.owes_plain rfl fun ρ wo hs' hb hc' => ?_
        have h18 : ρ (.tmp 18) = .bool true := hs'.new' 18 14 (by kernel_rfl)
        go_simp
        exact Any.post_val hb rfl rfl
      · refine Any.owes_plain rfl fun ρ wo hs' hb hc' => ?_
        have h21 : ρ (.tmp 21) = .bool true := hs'.new' 21 17 (by kernel_rfl)
        exact Any.ok_assign (Any.post_val hb rfl h21)
    intro vals w5 hb hk ha
    have h18 : vals 18 = .bool true := hk 18 (by kernel_rfl)
    have HB5 := Lib.hid hb
    clear hk ha hb
    simp only [Any.putAll]
    go_frame
    simp only [Nat.zero_add, Nat.reduceAdd]
    rw [h18]
    clear h18
    go_wp2_with fail
    go_ret
    exact retB HV.out HB5.out
  have t1 : decide ((64 : Int) < (L.length : Int)) = false := decide_eq_false (by omega)
  have HF1 := Lib.hid (decide_eq_false h1)
  clear h1
  by_cases h2 : 4096 < uL + ns.length
  · have t2 : decide ((4096 : Int) < (uL : Int) + (ns.length : Int)) = true := decide_eq_true (by omega)
    have HV : Hid (true = R) := Lib.hid (by rw [HR.out, HF1.out, decide_eq_true h2]; rfl)
    clear h2
    go_enter Tryz.func40, Tryz.ntmps40
    go_wp2_with fail
    refine Any.region_lit (fun
      | 0 => Any.val (.slice ap L.length cp)
      | 1 => Any.val (.int .i64 L.length)
      | 2 => Any.val (.bool false)
      | 3 => Any.val (.bool false)
      | 4 => Any.val (.pointer (some ⟨bh, 0, none⟩))
      | 5 => Any.val (.pointer (some ⟨bh, 0, none⟩))
      | 6 => Any.val (.pointer (some ⟨bh, 2, none⟩))
      | 7 => Any.val (.map (some bu))
      | 8 => Any.val (.int .i64 uL)
      | 9 => Any.val (.slice an ns.length cn)
      | 10 => Any.val (.int .i64 ns.length)
      | 11 => Any.val (.int .i64 (uL + ns.length))
      | 12 => Any.val (.bool true)
      | 13 => Any.val (.bool true)
      | 14 => Any.val (.bool true)
      | 15 => Any.idle
      | 16 => Any.idle
      | 17 => Any.val (.bool true)
      | 18 => Any.val (.bool true)
      | _ => Any.idle) (by kernel_rfl) (by kernel_rfl) (by kernel_rfl) ?_ ?_ ?_
    · intro i _
      match i with
      | 0 => exact Any.lasts_val _
      | 1 => exact Any.lasts_val _
      | 2 => exact Any.lasts_val _
      | 3 => exact Any.lasts_val _
      | 4 => exact Any.lasts_val _
      | 5 => exact Any.lasts_val _
      | 6 => exact Any.lasts_val _
      | 7 => exact Any.lasts_val _
      | 8 => exact Any.lasts_val _
      | 9 => exact Any.lasts_val _
      | 10 => exact Any.lasts_val _
      | 11 => exact Any.lasts_val _
      | 12 => exact Any.lasts_val _
      | 13 => exact Any.lasts_val _
      | 14 => exact Any.lasts_val _
      | 15 => exact Any.lasts_idle
      | 16 => exact Any.lasts_idle
      | 17 => exact Any.lasts_val _
      | 18 => exact Any.lasts_val _
      | n + 19 => exact Any.lasts_idle
    · refine ⟨?_, ?_, ?_, ?_, ?_, ?_, ?_, ?_, ?_, ?_, ?_, ?_, ?_, ?_, ?_, ?_, ?_, ?_, ?_, trivial⟩
      · refine Any.owes_plain rfl fun ρ wo hs' hb hc' => ?_
        have h0 : ρ (.tmp 0) = .pointer (some ⟨b8, 0, none⟩) := hs'.old' 0 (by kernel_rfl)
        have c0 := cell_blk (blk (below_undrew hb) (lt_blk H8.out) H8.out) 0
        simp only [List.getElem?_toArray, List.getElem?_cons_zero] at c0
        go_simp
        exact Any.post_val hb rfl rfl
      · refine Any.owes_plain rfl fun ρ wo hs' hb hc' => ?_
        have h4 : ρ (.tmp 4) = .slice ap L.length cp := hs'.new' 4 0 (by kernel_rfl)
        go_simp
        exact Any.post_val hb rfl rfl
      · refine Any.owes_plain rfl fun ρ wo hs' hb hc' => ?_
        have h5 : ρ (.tmp 5) = .int .i64 L.length := hs'.new' 5 1 (by kernel_rfl)
        go_simp
        exact Any.post_val hb rfl rfl
      · refine Any.owes_plain rfl fun ρ wo hs' hb hc' => ?_
        have h6 : ρ (.tmp 6) = .bool false := hs'.new' 6 2 (by kernel_rfl)
        go_simp
        exact Any.post_val hb rfl rfl
      · refine Any.owes_on rfl rfl (by kernel_rfl) rfl fun ρ wo hs' hb hc' => ?_
        have h1 : ρ (.tmp 1) = .pointer (some ⟨b5, 0, none⟩) := hs'.old' 1 (by kernel_rfl)
        have c0 := cell_blk (blk (below_undrew hb) (lt_blk H5.out) H5.out) 0
        simp only [List.getElem?_toArray, List.getElem?_cons_zero] at c0
        go_simp
        exact Any.post_val hb rfl rfl
      · refine Any.owes_on rfl rfl (by kernel_rfl) rfl fun ρ wo hs' hb hc' => ?_
        have h8 : ρ (.tmp 8) = .pointer (some ⟨bh, 0, none⟩) := hs'.new' 8 4 (by kernel_rfl)
        go_simp
        exact Any.post_val hb rfl rfl
      · refine Any.owes_on rfl rfl (by kernel_rfl) rfl fun ρ wo hs' hb hc' => ?_
        have h9 : ρ (.tmp 9) = .pointer (some ⟨bh, 0, none⟩) := hs'.new' 9 5 (by kernel_rfl)
        go_simp
        exact Any.post_val hb rfl rfl
      · refine Any.owes_on rfl rfl (by kernel_rfl) rfl fun ρ wo hs' hb hc' => ?_
        have h10 : ρ (.tmp 10) = .pointer (some ⟨bh, 2, none⟩) := hs'.new' 10 6 (by kernel_rfl)
        have c0 := cell_blk (blk (below_undrew hb) (lt_blk HBX.out) HBX.out) 2
        simp only [List.getElem?_toArray, List.getElem?_cons_succ, List.getElem?_cons_zero] at c0
        go_simp
        exact Any.post_val hb rfl rfl
      · refine Any.owes_on rfl rfl (by kernel_rfl) rfl fun ρ wo hs' hb hc' => ?_
        have h11 : ρ (.tmp 11) = .map (some bu) := hs'.new' 11 7 (by kernel_rfl)
        refine Mp.ok_len Tryz.underlying59 (h11.trans rfl) (HUM.out.same ((below_undrew hb).block _ HUM.out.lt)) ?_
        rw [← HEQ.out]
        exact Any.post_val hb rfl rfl
      · refine Any.owes_on rfl rfl (by kernel_rfl) rfl fun ρ wo hs' hb hc' => ?_
        have h2 : ρ (.tmp 2) = .pointer (some ⟨b7, 0, none⟩) := hs'.old' 2 (by kernel_rfl)
        have c0 := cell_blk (blk (below_undrew hb) (lt_blk H7.out) H7.out) 0
        simp only [List.getElem?_toArray, List.getElem?_cons_zero] at c0
        go_simp
        exact Any.post_val hb rfl rfl
      · refine Any.owes_on rfl rfl (by kernel_rfl) rfl fun ρ wo hs' hb hc' => ?_
        have h13 : ρ (.tmp 13) = .slice an ns.length cn := hs'.new' 13 9 (by kernel_rfl)
        go_simp
        exact Any.post_val hb rfl rfl
      · refine Any.owes_on rfl rfl (by kernel_rfl) rfl fun ρ wo hs' hb hc' => ?_
        have h12 : ρ (.tmp 12) = .int .i64 uL := hs'.new' 12 8 (by kernel_rfl)
        have h14 : ρ (.tmp 14) = .int .i64 ns.length := hs'.new' 14 10 (by kernel_rfl)
        go_simp
        exact Any.post_val hb rfl (congrArg (Value.int .i64) ((IntWalk.i64_left _).trans ew))
      · refine Any.owes_on rfl rfl (by kernel_rfl) rfl fun ρ wo hs' hb hc' => ?_
        have h15 : ρ (.tmp 15) = .int .i64 (uL + ns.length) := hs'.new' 15 11 (by kernel_rfl)
        go_simp
        exact Any.post_val hb rfl rfl
      · refine Any.owes_plain rfl fun ρ wo hs' hb hc' => ?_
        have h7 : ρ (.tmp 7) = .bool false := hs'.new' 7 3 (by kernel_rfl)
        have h16 : ρ (.tmp 16) = .bool true := hs'.new' 16 12 (by kernel_rfl)
        go_simp
        exact Any.post_val hb rfl rfl
      · refine Any.owes_plain rfl fun ρ wo hs' hb hc' => ?_
        have h17 : ρ (.tmp 17) = .bool true := hs'.new' 17 13 (by kernel_rfl)
        go_simp
        exact Any.post_val hb rfl rfl
      · exact Any.owes_off rfl rfl (by kernel_rfl) rfl (by decide) rfl
      · exact Any.owes_off rfl rfl (by kernel_rfl) rfl (by decide) rfl
      · refine Any.owes_plain rfl fun ρ wo hs' hb hc' => ?_
        have h18 : ρ (.tmp 18) = .bool true := hs'.new' 18 14 (by kernel_rfl)
        go_simp
        exact Any.post_val hb rfl rfl
      · refine Any.owes_plain rfl fun ρ wo hs' hb hc' => ?_
        have h21 : ρ (.tmp 21) = .bool true := hs'.new' 21 17 (by kernel_rfl)
        exact Any.ok_assign (Any.post_val hb rfl h21)
    intro vals w5 hb hk ha
    have h18 : vals 18 = .bool true := hk 18 (by kernel_rfl)
    have HB5 := Lib.hid hb
    clear hk ha hb
    simp only [Any.putAll]
    go_frame
    simp only [Nat.zero_add, Nat.reduceAdd]
    rw [h18]
    clear h18
    go_wp2_with fail
    go_ret
    exact retB HV.out HB5.out
  · have t2 : decide ((4096 : Int) < (uL : Int) + (ns.length : Int)) = false := decide_eq_false (by omega)
    have HV : Hid (q = R) := Lib.hid (by rw [HR.out, HF1.out, decide_eq_false h2]; rfl)
    clear h2
    go_enter Tryz.func40, Tryz.ntmps40
    go_wp2_with fail
    refine Any.region_lit (fun
      | 0 => Any.val (.slice ap L.length cp)
      | 1 => Any.val (.int .i64 L.length)
      | 2 => Any.val (.bool false)
      | 3 => Any.val (.bool false)
      | 4 => Any.val (.pointer (some ⟨bh, 0, none⟩))
      | 5 => Any.val (.pointer (some ⟨bh, 0, none⟩))
      | 6 => Any.val (.pointer (some ⟨bh, 2, none⟩))
      | 7 => Any.val (.map (some bu))
      | 8 => Any.val (.int .i64 uL)
      | 9 => Any.val (.slice an ns.length cn)
      | 10 => Any.val (.int .i64 ns.length)
      | 11 => Any.val (.int .i64 (uL + ns.length))
      | 12 => Any.val (.bool false)
      | 13 => Any.val (.bool false)
      | 14 => Any.val (.bool false)
      | 15 => Any.val (.slice ap L.length cp)
      | 16 => Any.val (.bool q)
      | 17 => Any.val (.bool q)
      | 18 => Any.val (.bool q)
      | _ => Any.idle) (by kernel_rfl) (by kernel_rfl) (by kernel_rfl) ?_ ?_ ?_
    · intro i _
      match i with
      | 0 => exact Any.lasts_val _
      | 1 => exact Any.lasts_val _
      | 2 => exact Any.lasts_val _
      | 3 => exact Any.lasts_val _
      | 4 => exact Any.lasts_val _
      | 5 => exact Any.lasts_val _
      | 6 => exact Any.lasts_val _
      | 7 => exact Any.lasts_val _
      | 8 => exact Any.lasts_val _
      | 9 => exact Any.lasts_val _
      | 10 => exact Any.lasts_val _
      | 11 => exact Any.lasts_val _
      | 12 => exact Any.lasts_val _
      | 13 => exact Any.lasts_val _
      | 14 => exact Any.lasts_val _
      | 15 => exact Any.lasts_val _
      | 16 => exact Any.lasts_val _
      | 17 => exact Any.lasts_val _
      | 18 => exact Any.lasts_val _
      | n + 19 => exact Any.lasts_idle
    · refine ⟨?_, ?_, ?_, ?_, ?_, ?_, ?_, ?_, ?_, ?_, ?_, ?_, ?_, ?_, ?_, ?_, ?_, ?_, ?_, trivial⟩
      · refine Any.owes_plain rfl fun ρ wo hs' hb hc' => ?_
        have h0 : ρ (.tmp 0) = .pointer (some ⟨b8, 0, none⟩) := hs'.old' 0 (by kernel_rfl)
        have c0 := cell_blk (blk (below_undrew hb) (lt_blk H8.out) H8.out) 0
        simp only [List.getElem?_toArray, List.getElem?_cons_zero] at c0
        go_simp
        exact Any.post_val hb rfl rfl
      · refine Any.owes_plain rfl fun ρ wo hs' hb hc' => ?_
        have h4 : ρ (.tmp 4) = .slice ap L.length cp := hs'.new' 4 0 (by kernel_rfl)
        go_simp
        exact Any.post_val hb rfl rfl
      · refine Any.owes_plain rfl fun ρ wo hs' hb hc' => ?_
        have h5 : ρ (.tmp 5) = .int .i64 L.length := hs'.new' 5 1 (by kernel_rfl)
        go_simp
        exact Any.post_val hb rfl rfl
      · refine Any.owes_plain rfl fun ρ wo hs' hb hc' => ?_
        have h6 : ρ (.tmp 6) = .bool false := hs'.new' 6 2 (by kernel_rfl)
        go_simp
        exact Any.post_val hb rfl rfl
      · refine Any.owes_on rfl rfl (by kernel_rfl) rfl fun ρ wo hs' hb hc' => ?_
        have h1 : ρ (.tmp 1) = .pointer (some ⟨b5, 0, none⟩) := hs'.old' 1 (by kernel_rfl)
        have c0 := cell_blk (blk (below_undrew hb) (lt_blk H5.out) H5.out) 0
        simp only [List.getElem?_toArray, List.getElem?_cons_zero] at c0
        go_simp
        exact Any.post_val hb rfl rfl
      · refine Any.owes_on rfl rfl (by kernel_rfl) rfl fun ρ wo hs' hb hc' => ?_
        have h8 : ρ (.tmp 8) = .pointer (some ⟨bh, 0, none⟩) := hs'.new' 8 4 (by kernel_rfl)
        go_simp
        exact Any.post_val hb rfl rfl
      · refine Any.owes_on rfl rfl (by kernel_rfl) rfl fun ρ wo hs' hb hc' => ?_
        have h9 : ρ (.tmp 9) = .pointer (some ⟨bh, 0, none⟩) := hs'.new' 9 5 (by kernel_rfl)
        go_simp
        exact Any.post_val hb rfl rfl
      · refine Any.owes_on rfl rfl (by kernel_rfl) rfl fun ρ wo hs' hb hc' => ?_
        have h10 : ρ (.tmp 10) = .pointer (some ⟨bh, 2, none⟩) := hs'.new' 10 6 (by kernel_rfl)
        have c0 := cell_blk (blk (below_undrew hb) (lt_blk HBX.out) HBX.out) 2
        simp only [List.getElem?_toArray, List.getElem?_cons_succ, List.getElem?_cons_zero] at c0
        go_simp
        exact Any.post_val hb rfl rfl
      · refine Any.owes_on rfl rfl (by kernel_rfl) rfl fun ρ wo hs' hb hc' => ?_
        have h11 : ρ (.tmp 11) = .map (some bu) := hs'.new' 11 7 (by kernel_rfl)
        refine Mp.ok_len Tryz.underlying59 (h11.trans rfl) (HUM.out.same ((below_undrew hb).block _ HUM.out.lt)) ?_
        rw [← HEQ.out]
        exact Any.post_val hb rfl rfl
      · refine Any.owes_on rfl rfl (by kernel_rfl) rfl fun ρ wo hs' hb hc' => ?_
        have h2 : ρ (.tmp 2) = .pointer (some ⟨b7, 0, none⟩) := hs'.old' 2 (by kernel_rfl)
        have c0 := cell_blk (blk (below_undrew hb) (lt_blk H7.out) H7.out) 0
        simp only [List.getElem?_toArray, List.getElem?_cons_zero] at c0
        go_simp
        exact Any.post_val hb rfl rfl
      · refine Any.owes_on rfl rfl (by kernel_rfl) rfl fun ρ wo hs' hb hc' => ?_
        have h13 : ρ (.tmp 13) = .slice an ns.length cn := hs'.new' 13 9 (by kernel_rfl)
        go_simp
        exact Any.post_val hb rfl rfl
      · refine Any.owes_on rfl rfl (by kernel_rfl) rfl fun ρ wo hs' hb hc' => ?_
        have h12 : ρ (.tmp 12) = .int .i64 uL := hs'.new' 12 8 (by kernel_rfl)
        have h14 : ρ (.tmp 14) = .int .i64 ns.length := hs'.new' 14 10 (by kernel_rfl)
        go_simp
        exact Any.post_val hb rfl (congrArg (Value.int .i64) ((IntWalk.i64_left _).trans ew))
      · refine Any.owes_on rfl rfl (by kernel_rfl) rfl fun ρ wo hs' hb hc' => ?_
        have h15 : ρ (.tmp 15) = .int .i64 (uL + ns.length) := hs'.new' 15 11 (by kernel_rfl)
        go_simp
        exact Any.post_val hb rfl rfl
      · refine Any.owes_plain rfl fun ρ wo hs' hb hc' => ?_
        have h7 : ρ (.tmp 7) = .bool false := hs'.new' 7 3 (by kernel_rfl)
        have h16 : ρ (.tmp 16) = .bool false := hs'.new' 16 12 (by kernel_rfl)
        go_simp
        exact Any.post_val hb rfl rfl
      · refine Any.owes_plain rfl fun ρ wo hs' hb hc' => ?_
        have h17 : ρ (.tmp 17) = .bool false := hs'.new' 17 13 (by kernel_rfl)
        go_simp
        exact Any.post_val hb rfl rfl
      · refine Any.owes_on rfl rfl (by kernel_rfl) rfl fun ρ wo hs' hb hc' => ?_
        have h0 : ρ (.tmp 0) = .pointer (some ⟨b8, 0, none⟩) := hs'.old' 0 (by kernel_rfl)
        have c0 := cell_blk (blk (below_undrew hb) (lt_blk H8.out) H8.out) 0
        simp only [List.getElem?_toArray, List.getElem?_cons_zero] at c0
        go_simp
        exact Any.post_val hb rfl rfl
      · refine Any.owes_on rfl rfl (by kernel_rfl) rfl fun ρ wo hs' hb hc' => ?_
        have h19 : ρ (.tmp 19) = .slice ap L.length cp := hs'.new' 19 15 (by kernel_rfl)
        have hf38 := hs'.func 38
        have hf41 := hs'.func 41
        go_simp
        exact (HQC.out wo (below_undrew hb)).mono fun e w' ⟨he, hb'⟩ => ⟨_, he, Any.post_vals hb rfl rfl hb'⟩
      · refine Any.owes_plain rfl fun ρ wo hs' hb hc' => ?_
        have h18 : ρ (.tmp 18) = .bool false := hs'.new' 18 14 (by kernel_rfl)
        have h20 : ρ (.tmp 20) = .bool q := hs'.new' 20 16 (by kernel_rfl)
        go_simp
        exact Any.post_val hb rfl rfl
      · refine Any.owes_plain rfl fun ρ wo hs' hb hc' => ?_
        have h21 : ρ (.tmp 21) = .bool q := hs'.new' 21 17 (by kernel_rfl)
        exact Any.ok_assign (Any.post_val hb rfl h21)
    intro vals w5 hb hk ha
    have h18 : vals 18 = .bool q := hk 18 (by kernel_rfl)
    have HB5 := Lib.hid hb
    clear hk ha hb
    simp only [Any.putAll]
    go_frame
    simp only [Nat.zero_add, Nat.reduceAdd]
    rw [h18]
    clear h18
    go_wp2_with fail
    go_ret
    exact retB HV.out HB5.out
end Go.Proofs.YticnmmfiadpbbaaGreat.Sc
namespace Go.Proofs.YticnmmfiadpbbaaGreat.Sc
open Go Go.RowKit Go.ChangeShapes Go.WideShapes Go.ChangeAt
set_option maxRecDepth 100000

theorem growLots_any (n : Nat) (w : World) (hn : n ≤ 1000000) : Calls Tryz.prog 69 #[.slice none 0 0, .int .i64 (n : Int)] w (RetRow w 47 2 0 []) := by
  obtain ⟨i0, hi, hz, hsz, hby⟩ := info_parts infoLt
  by_cases h0 : n = 0
  · subst h0
    refine (Any8.slices_Grow_room Tryz.growLot none 0 0 0 w (Nat.le_refl _) (by decide) (by decide) (by decide)).mono ?_
    rintro e w' ⟨rfl, rfl⟩
    exact ⟨_, rfl, World.ownsRow_nil _ _ _ _, Below.refl _ _⟩
  · refine (Any8.slices_Grow_grow Tryz.growLot i0 _ hi hz (by omega) none 0 0 n [] w (Nat.le_refl _) (by omega) (by rw [hby]; omega) (by omega) (by simp) (fun _ => rfl) (fun a h => by cases h)).mono ?_
    rintro e w' ⟨rfl, rfl⟩
    refine ⟨_, rfl, ?_, ?_⟩
    · refine World.ownsRow_made w.drew _ _ (Nat.le_refl _) (grownCap_le_maxLen _ _ _ _ (by simp only [maxLen]; omega)) ?_
      have hge := grownCap_ge w (0 + n) 0 (Tryz.growLot_ren.t 25)
      simp only [Array.size_append, List.size_toArray, List.length_nil, size_zeroCells, Value.cells]
      simp only [List.length_cons, List.length_nil, Nat.zero_add, Nat.sub_zero]
      have hge' : n ≤ grownCap w (0 + n) 0 (Tryz.growLot_ren.t 25) := by simpa using hge
      simp only [Nat.zero_add] at hge' ⊢
      rw [← Nat.add_mul]
      congr 1
      omega
    · exact (Below.refl _ _).drew.alloc (Nat.le_refl _) _
def npTot (L : List Np) : Nat := (npSnd L).flatten.length
theorem npTot_drop {L : List Np} {k : Nat} (h : k < L.length) : npTot (L.drop k) = L[k].2.length + npTot (L.drop (k + 1)) := by
  unfold npTot npSnd
  rw [List.drop_eq_getElem_cons h, List.map_cons, List.flatten_cons, List.length_append]
theorem npFlat_take {L : List Np} {k : Nat} (h : k < L.length) : (npSnd (L.take (k + 1))).flatten = (npSnd (L.take k)).flatten ++ L[k].2 := by
  unfold npSnd
  rw [List.take_succ_eq_append_getElem h, List.map_append, List.flatten_append, List.map_cons, List.map_nil, List.flatten_cons, List.flatten_nil, List.append_nil]
theorem npTot_take {L : List Np} (k : Nat) : (npSnd (L.take k)).flatten.length + npTot (L.drop k) = npTot L := by
  unfold npTot npSnd
  rw [← List.length_append, ← List.flatten_append, ← List.map_append, List.take_append_drop]
set_option maxHeartbeats 8000000 in
theorem concat_any (L : List Np) (v : Value) (w : World) (h : NpAt w v L) (hl : npTot L ≤ 100000) :
    Calls Tryz.prog 48 #[v] w (RetRow w 47 2 (npTot L) (ltCells (npSnd L).flatten)) := by
  obtain ⟨a, c, rfl⟩ : ∃ a c, v = .slice a L.length c := by simpa using h.1.shape
  have hll : L.length ≤ 9223372036854775807 := by have := h.1.len_le; simp only [List.length_map, maxLen] at this; omega
  have HN := Lib.hid h
  have HL := Lib.hid hl
  obtain ⟨i0, hi, hz, hsz, hby⟩ := info_parts infoLt
  have HI := Lib.hid (And.intro hi (And.intro hz (And.intro hsz hby)))
  clear h hl hi hz hsz hby
  go_enter Tryz.func48, Tryz.ntmps48
  go_wp2_with fail
  go_loopw [3, 5, 11] (fun s _ i wr => ∃ k sN : Nat, k ≤ L.length ∧ i = .int .i64 k ∧ s = .int .i64 sN ∧ sN + npTot (L.drop k) = npTot L ∧ Below w.heap.size w wr) (fun _ _ i _ => L.length - (intOf i).toNat)
  case atStart => exact ⟨0, 0, Nat.zero_le _, rfl, rfl, by simp, Below.refl _ _⟩
  case round =>
    obtain ⟨k, sN, hk, rfl, rfl, hsum, hbel⟩ := hrel
    have HBEL := Lib.hid hbel
    by_cases hlt : k < L.length
    · obtain ⟨b, off, rfl, -, hb, hc⟩ := HN.out.1.at (i := k) (by simpa using hlt)
      have d0 := (hbel.cell (p := ⟨b, off + k * 1, none⟩) hb).trans (hc k [L[k].1] (by simp [hlt]) 0 _ rfl)
      rw [Nat.mul_one] at d0
      have hx := HN.out.2 L[k] (List.getElem_mem hlt)
      rw [npTot_drop hlt] at hsum
      generalize L[k] = x at *
      obtain ⟨xv, xl⟩ := x
      simp only at d0 hx hsum
      obtain ⟨ax, cx, rfl⟩ : ∃ a c, xv = .slice a xl.length c := by simpa using hx.shape
      have hsn : sN + xl.length ≤ 100000 := by have := HL.out; omega
      have ew : wrap64 ((sN : Int) + (xl.length : Int)) = (sN : Int) + (xl.length : Int) := wrap_q (by omega)
      have t1 : decide ((sN : Int) + (xl.length : Int) < 0) = false := decide_eq_false (by omega)
      have hxl : xl.length ≤ 9223372036854775807 := by omega
      have HS : Hid (sN + xl.length + npTot (L.drop (k + 1)) = npTot L) := Lib.hid (by omega)
      clear hb hc hbel hx hsum
      go_wp2_with fail
      go_roundw
      case rel => exact ⟨k + 1, sN + xl.length, by omega, by go_num, by go_num, HS.out, HBEL.out⟩
      case measure => (simp [intOf]) <;> omega
    · have HS : Hid (sN = npTot L) := Lib.hid (by rw [List.drop_of_length_le (by omega)] at hsum; simpa [npTot, npSnd] using hsum)
      have HG := Lib.hid (growLots_any sN wr (by rw [HS.out]; have := HL.out; omega))
      have hsn : sN ≤ 100000 := by rw [HS.out]; exact HL.out
      clear hbel hsum
      go_wp2_with (first
        | ((with_reducible refine HG.out.mono ?_); rintro e w1 ⟨v1, rfl, ho1, hb1⟩; have HB1 := Lib.hid (HBEL.out.trans (hb1.mono HBEL.out.size)); have HO1 := Lib.hid (ownsRow_base ho1 HBEL.out.size); clear ho1 hb1)
        | fail)
      go_loopw [6, 8, 27] (fun r _ i wr => ∃ k : Nat, k ≤ L.length ∧ i = .int .i64 k ∧ wr.ownsRow w.heap.size 47 2 r (npSnd (L.take k)).flatten.length (ltCells (npSnd (L.take k)).flatten) ∧ Below w.heap.size w wr) (fun _ _ i _ => L.length - (intOf i).toNat)
      case atStart => exact ⟨0, Nat.zero_le _, rfl, HO1.out, HB1.out⟩
      case round =>
        obtain ⟨k, hk, rfl, hown, hbel⟩ := hrel
        have HBEL2 := Lib.hid hbel
        have HOWN := Lib.hid hown
        have hkt := npTot_take (L := L) k
        by_cases hlt : k < L.length
        · obtain ⟨b, off, rfl, -, hb, hc⟩ := HN.out.1.at (i := k) (by simpa using hlt)
          have d0 := (hbel.cell (p := ⟨b, off + k * 1, none⟩) hb).trans (hc k [L[k].1] (by simp [hlt]) 0 _ rfl)
          rw [Nat.mul_one] at d0
          have hx := (HN.out.2 L[k] (List.getElem_mem hlt)).below hbel (Nat.le_refl _)
          have HFT := Lib.hid (npFlat_take hlt)
          rw [npTot_drop hlt] at hkt
          generalize L[k] = x at *
          obtain ⟨xv, xl⟩ := x
          simp only at d0 hx HFT hkt
          obtain ⟨ax, cx, rfl⟩ : ∃ a c, xv = .slice a xl.length c := by simpa using hx.shape
          have HSR := Lib.hid (Sl.src hx (lt_rows xl) (by decide))
          rw [List.length_map, ← ltCells_flat] at HSR
          have HONE : Hid (∀ u ∈ ltCells xl, u.oneCell' = true) := Lib.hid (lts_one xl)
          generalize (npSnd (L.take k)).flatten = A at *
          have HLE : Hid (A.length + xl.length ≤ maxLen ∧ (A.length + xl.length) * 24 ≤ 140737488355328 ∧ w.heap.size ≤ wr.heap.size) := Lib.hid (by have h1 := HL.out; have h2 := HBEL2.out.size; simp only [maxLen]; omega)
          clear hb hc hbel hown hx hkt
          go_wp2_with (first
            | ((with_reducible refine Any.wpl_cat ?_ ?_ ?_ Tryz.underlying32 HI.out.1 HI.out.2.1 HI.out.2.2.1 HI.out.2.2.2 ?_ (by decide) HOWN.out HSR.out ?_ HLE.out.1 HLE.out.2.1 HLE.out.2.2 ?_); rfl; rfl; rfl; rfl; exact HONE.out; intro v2 w2 hown2 hgrow2 hwho2
               have HO2 := Lib.hid hown2
               have HB2 := Lib.hid (push_below HBEL2.out HOWN.out hgrow2)
               clear hown2 hgrow2 hwho2)
            | fail)
          go_roundw
          case rel => exact ⟨k + 1, by omega, by go_num, by rw [HFT.out, List.length_append, ltCells_append]; exact HO2.out, HB2.out⟩
          case measure => (simp [intOf]) <;> omega
        · have HF : Hid (L.take k = L) := Lib.hid (List.take_of_length_le (by omega))
          clear hbel hown hkt
          go_wp2_with fail
          go_ret
          refine ⟨_, rfl, ?_, HBEL2.out⟩
          have := HOWN.out
          rw [HF.out] at this
          exact this
set_option maxRecDepth 5000 in
set_option maxHeartbeats 1000000 in
theorem equalLots_any (l m : List Lt) (v u : Value) (w : World) (hs : Sl w 2 v (l.map Lt.row)) (hu : Sl w 2 u (m.map Lt.row)) :
    Calls Tryz.prog 46 #[v, u] w (RetB w (decide (l = m))) := by
  have hml : l.length ≤ 9223372036854775807 := by have := hs.len_le; simp only [List.length_map, maxLen] at this; omega
  have hmm : m.length ≤ 9223372036854775807 := by have := hu.len_le; simp only [List.length_map, maxLen] at this; omega
  obtain ⟨a, c, rfl⟩ : ∃ a c, v = .slice a l.length c := by simpa using hs.shape
  obtain ⟨a', c', rfl⟩ : ∃ a c, u = .slice a m.length c := by simpa using hu.shape
  have HSL := Lib.hid hs
  have HSM := Lib.hid hu
  clear hs hu
  by_cases hlm : l.length = m.length
  · have t0 : ((l.length : Int) != (m.length : Int)) = false := by simp [hlm]
    have HLM := Lib.hid hlm
    clear hlm
    go_enter Tryz.func46, Tryz.ntmps46
    go_wp2_with fail
    clear t0
    go_loopw [5, 13] (fun _ i wr => ∃ k : Nat, k ≤ l.length ∧ i = .int .i64 k ∧ decide (l = m) = decide (l.drop k = m.drop k) ∧ Below w.heap.size w wr) (fun _ i _ => l.length - (intOf i).toNat)
    case atStart => exact ⟨0, Nat.zero_le _, rfl, rfl, Below.refl _ _⟩
    case round =>
      obtain ⟨k, hk, rfl, hrel, hbel⟩ := hrel
      by_cases hlt : k < l.length
      · have hlt' : k < m.length := by have := HLM.out; omega
        obtain ⟨b, off, rfl, -, hb, hc⟩ := HSL.out.at (i := k) (by simpa using hlt)
        obtain ⟨b', off', rfl, -, hb', hc'⟩ := HSM.out.at (i := k) (by simpa using hlt')
        have d0 := (hbel.cell (p := ⟨b, off + k * 2, none⟩) hb).trans (hc k (Lt.row l[k]) (by simp [hlt]) 0 _ rfl)
        have e0 := (hbel.cell (p := ⟨b', off' + k * 2, none⟩) hb').trans (hc' k (Lt.row m[k]) (by simp [hlt']) 0 _ rfl)
        have d1 := (hbel.cell (p := ⟨b, off + k * 2 + 1, none⟩) hb).trans (hc k (Lt.row l[k]) (by simp [hlt]) 1 _ rfl)
        have e1 := (hbel.cell (p := ⟨b', off' + k * 2 + 1, none⟩) hb').trans (hc' k (Lt.row m[k]) (by simp [hlt']) 1 _ rfl)
        rw [List.drop_eq_getElem_cons hlt, List.drop_eq_getElem_cons hlt'] at hrel
        have HR := Lib.hid hrel
        clear hrel hc hc'
        generalize l[k] = x at *
        generalize m[k] = y at *
        by_cases heq : x = y
        · have HEQ := Lib.hid heq
          have t1 : LtEq x y = true := ltEq_yes heq
          have t2 := fun w => run_neq_lt w x y
          unfold Lt.cells at t2
          have t3 := ltGuard
          clear heq
          go_wp2_with fail
          go_quiet (fail)
          go_wp2_with fail
          go_roundw
          case rel => exact ⟨k + 1, by omega, by go_num, by rw [HR.out, HEQ.out]; simp, below_drewN hbel _⟩
          case measure => simp [intOf]; omega
        · have HEQ := Lib.hid heq
          have t1 : LtEq x y = false := ltEq_no heq
          have t2 := fun w => run_neq_lt w x y
          unfold Lt.cells at t2
          have t3 := ltGuard
          clear heq
          go_wp2_with fail
          go_quiet (fail)
          go_wp2_with fail
          go_ret
          exact retB (by rw [HR.out]; simp [HEQ.out]) (below_drewN hbel _)
      · have HR := Lib.hid hrel
        clear hrel
        go_wp2_with fail
        go_ret
        exact retB (by rw [HR.out, List.drop_eq_nil_of_le (by omega), List.drop_eq_nil_of_le (by have := HLM.out; omega)]; rfl) hbel
  · have t0 : ((l.length : Int) != (m.length : Int)) = true := by simp; omega
    have HLM := Lib.hid hlm
    clear hlm
    go_enter Tryz.func46, Tryz.ntmps46
    go_wp2_with fail
    go_ret
    exact retB (by symm; exact decide_eq_false fun h => HLM.out (by rw [h])) (Below.refl _ _)
end Go.Proofs.YticnmmfiadpbbaaGreat.Sc
namespace Go.Proofs.YticnmmfiadpbbaaGreat.Sc
open Go Go.RowKit Go.ChangeShapes Go.WideShapes Go.ChangeAt
set_option maxRecDepth 100000

set_option maxHeartbeats 4000000 in
theorem part4 (L : List Np) (X : List Lt) (x0 x1 x2 x4 lv vp : Value) (b8 b9 : Nat) (w : World) (h8 : B1 w b8 vp 41) (h9 : w.heap[b9]? = some (.cells #[x0, x1, x2, lv, x4] 34 (0, 0))) (hp : NpAt w vp L)
    (hx : Sl w 2 lv (X.map Lt.row)) (hl : npTot L ≤ 100000) (hc : ∀ g, posTot (npSnd L).flatten g ≤ 4611686018427387904) :
    Calls Tryz.prog 45 #[.pointer (some ⟨b8, 0, none⟩), .pointer (some ⟨b9, 0, none⟩)] w (RetB w (!sameL (joinL (npSnd L).flatten) X)) := by
  obtain ⟨FL, hFL⟩ : ∃ F, F = (npSnd L).flatten := ⟨_, rfl⟩
  obtain ⟨J, hJ⟩ : ∃ J, J = joinL FL := ⟨_, rfl⟩
  have HCC : Hid (∀ W, Below w.heap.size w W → Calls Tryz.prog 48 #[vp] W (RetRow W 47 2 FL.length (ltCells FL))) := Lib.hid (fun W hb => by rw [hFL]; exact concat_any L vp W (hp.below hb) hl)
  have HJN : Hid (∀ W, Below w.heap.size w W → ∀ s, Sl W 2 s (FL.map Lt.row) → Calls Tryz.prog 47 #[s] W (RetRow W 47 2 J.length (ltCells J))) := Lib.hid (fun W _ s hs => by
    rw [hJ]
    exact join_all FL s W hs (by rw [hFL]; exact hl) (by rw [hFL]; exact hc))
  have HEQ : Hid (∀ W, Below w.heap.size w W → ∀ s, Sl W 2 s (J.map Lt.row) → Calls Tryz.prog 46 #[s, lv] W (RetB W (sameL J X))) := Lib.hid (fun W hb s hs => by
    rw [sameL_eq]
    exact equalLots_any J X s lv W hs (hx.below hb (Nat.le_refl _)))
  rw [← hFL, ← hJ]
  obtain ⟨ap, cp, rfl⟩ : ∃ a c, vp = .slice a L.length c := by simpa using hp.1.shape
  obtain ⟨a3, k3, rfl⟩ : ∃ a c, lv = .slice a X.length c := by simpa using hx.shape
  obtain ⟨B9, hB9⟩ : ∃ B, B = w.heap.size := ⟨_, rfl⟩
  have HB9 : Hid (B9 ≤ w.heap.size) := Lib.hid (Nat.le_of_eq hB9)
  have H8 := Lib.hid h8
  have H9 := Lib.hid h9
  generalize sameL J X = q at *
  clear hFL hJ hB9 hp hx h8 h9
  go_enter Tryz.func45, Tryz.ntmps45
  go_wp2_with fail
  refine Any.region_lit (fun
    | 0 => Any.val (.slice ap L.length cp)
    | 1 => Any.row B9 47 2 (FL.length) (ltCells FL) []
    | 2 => Any.row B9 47 2 (J.length) (ltCells J) []
    | 3 => Any.val (.pointer (some ⟨b9, 3, none⟩))
    | 4 => Any.val (.slice a3 X.length k3)
    | 5 => Any.val (.bool q)
    | 6 => Any.val (.bool (!q))
    | 7 => Any.val (.bool (!q))
    | _ => Any.idle) (by kernel_rfl) (by kernel_rfl) (by kernel_rfl) ?_ ?_ ?_
  · intro i _
    match i with
    | 0 => exact Any.lasts_val _
    | 1 => exact Any.lasts_row _ _ _ _ _ _
    | 2 => exact Any.lasts_row _ _ _ _ _ _
    | 3 => exact Any.lasts_val _
    | 4 => exact Any.lasts_val _
    | 5 => exact Any.lasts_val _
    | 6 => exact Any.lasts_val _
    | 7 => exact Any.lasts_val _
    | n + 8 => exact Any.lasts_idle
  · refine ⟨?_, ?_, ?_, ?_, ?_, ?_, ?_, ?_, trivial⟩
    · refine Any.owes_plain rfl fun ρ wo hs' hb hc' => ?_
      have h0 : ρ (.tmp 0) = .pointer (some ⟨b8, 0, none⟩) := hs'.old' 0 (by kernel_rfl)
      have c0 := cell_blk (blk (below_undrew hb) (lt_blk H8.out) H8.out) 0
      simp only [List.getElem?_toArray, List.getElem?_cons_zero] at c0
      go_simp
      exact Any.post_val hb rfl rfl
    · refine Any.owes_plain rfl fun ρ wo hs' hb hc' => ?_
      have h3 : ρ (.tmp 3) = .slice ap L.length cp := hs'.new' 3 0 (by kernel_rfl)
      have hf := hs'.func 48
      go_simp
      exact (HCC.out wo (below_undrew hb)).mono fun e w' ⟨v, he, ho, hb'⟩ => ⟨v, he, Any.post_new hb (ownsRow_base ho (Nat.le_trans HB9.out hb.size)) hb' (fun b h => (ho.lt b h).1)⟩
    · refine Any.owes_plain rfl fun ρ wo hs' hb hc' => ?_
      have hf := hs'.func 47
      have h4 : wo.ownsRow B9 47 2 (ρ (.tmp 4)) (FL.length) (ltCells FL) := hs'.new' 4 1 (by kernel_rfl)
      go_simp
      exact (HJN.out wo (below_undrew hb) _ (own_lots h4 rfl)).mono fun e w' ⟨v, he, ho, hb'⟩ => ⟨v, he, Any.post_new hb (ownsRow_base ho (Nat.le_trans HB9.out hb.size)) hb' (fun b h => (ho.lt b h).1)⟩
    · refine Any.owes_plain rfl fun ρ wo hs' hb hc' => ?_
      have h1 : ρ (.tmp 1) = .pointer (some ⟨b9, 0, none⟩) := hs'.old' 1 (by kernel_rfl)
      go_simp
      exact Any.post_val hb rfl rfl
    · refine Any.owes_plain rfl fun ρ wo hs' hb hc' => ?_
      have h6 : ρ (.tmp 6) = .pointer (some ⟨b9, 3, none⟩) := hs'.new' 6 3 (by kernel_rfl)
      obtain ⟨-, -, -, y3, -⟩ := five_blk (blk (below_undrew hb) (lt_blk H9.out) H9.out)
      go_simp
      exact Any.post_val hb rfl rfl
    · refine Any.owes_plain rfl fun ρ wo hs' hb hc' => ?_
      have h7 : ρ (.tmp 7) = .slice a3 X.length k3 := hs'.new' 7 4 (by kernel_rfl)
      have hf := hs'.func 46
      have h5 : wo.ownsRow B9 47 2 (ρ (.tmp 5)) J.length (ltCells J) := hs'.new' 5 2 (by kernel_rfl)
      go_simp
      exact (HEQ.out wo (below_undrew hb) _ (own_lots h5 rfl)).mono fun e w' ⟨he, hb'⟩ => ⟨_, he, Any.post_vals hb rfl rfl hb'⟩
    · refine Any.owes_plain rfl fun ρ wo hs' hb hc' => ?_
      have h8 : ρ (.tmp 8) = .bool q := hs'.new' 8 5 (by kernel_rfl)
      go_simp
      exact Any.post_val hb rfl rfl
    · refine Any.owes_plain rfl fun ρ wo hs' hb hc' => ?_
      have h9 : ρ (.tmp 9) = .bool (!q) := hs'.new' 9 6 (by kernel_rfl)
      exact Any.ok_assign (Any.post_val hb rfl h9)
  intro vals w5 hb hk ha
  have h7 : vals 7 = .bool (!q) := hk 7 (by kernel_rfl)
  have HB5 := Lib.hid hb
  clear hk ha hb
  simp only [Any.putAll]
  go_frame
  simp only [Nat.zero_add, Nat.reduceAdd]
  rw [h7]
  clear h7
  go_wp2_with fail
  go_ret
  exact retB rfl HB5.out
end Go.Proofs.YticnmmfiadpbbaaGreat.Sc
namespace Go.Proofs.YticnmmfiadpbbaaGreat.Sc
open Go Go.RowKit Go.ChangeShapes Go.WideShapes Go.ChangeAt
set_option maxRecDepth 100000

/-- Checks that write nothing, each asked where none before it holds. -/
theorem first_calm (n cp : Nat) (hn : n ≤ 64) (blk0 : Nat) (code : Nat → Int) (k : Nat → FuncId) (cap : Nat → Array Value) (b : Nat → Bool) (w0 w : World) (hb0 : blk0 < w0.heap.size) (hw : Below w0.heap.size w0 w)
    (hgo : ∀ i, i < n → ∀ w, (callFunc (k i) (cap i)).run Tryz.prog w = .ok (.enter (k i) (cap i)) w)
    (hcell : ∀ i, i < n → w0.cell? ⟨blk0, 2 * i, none⟩ = some (.int .i64 (code i)) ∧ w0.cell? ⟨blk0, 2 * i + 1, none⟩ = some (.func (.func (k i)) #[] (cap i)))
    (hcall : ∀ i W, i < n → (∀ j, j < i → b j = false) → Below w0.heap.size w0 W → Calls Tryz.prog (k i) (cap i) W (RetB W (b i))) :
    Calls Tryz.prog 27 #[.slice (some ⟨blk0, 0, none⟩) n cp] w fun e w' => e = .returned (.int .i64 (firstFrom code b n 0)) ∧ Below w0.heap.size w0 w' := by
  refine first_gen n cp hn blk0 code k cap b (fun i W => Below w0.heap.size w0 W ∧ w0.heap.size ≤ W.heap.size ∧ ∀ j, j < i → b j = false) (fun W => Below w0.heap.size w0 W) w ⟨hw, hw.size, fun j h => by omega⟩ hgo ?_ ?_ ?_ fun W h => h.1
  · intro i W hi hW
    exact ⟨(hW.1.cell (p := ⟨blk0, _, none⟩) hb0).trans (hcell i hi).1, (hW.1.cell (p := ⟨blk0, _, none⟩) hb0).trans (hcell i hi).2⟩
  · intro i W o hW
    exact ⟨hW.1.alloc hW.2.1 o, Nat.le_trans hW.2.1 (by simp), hW.2.2⟩
  · intro i W hi hW
    refine (hcall i W hi hW.2.2 hW.1).mono ?_
    rintro e W' ⟨rfl, hb'⟩
    have h2 : Below w0.heap.size w0 W' := hW.1.trans (hb'.mono hW.2.1)
    refine ⟨rfl, fun h0 => ⟨h2, h2.size, fun j hj => ?_⟩, fun _ => h2, ?_⟩
    · by_cases e : j = i
      · rw [e]; exact h0
      · exact hW.2.2 j (by omega)
    · rcases Nat.eq_zero_or_pos W.heap.size with h | h
      · exfalso; have := hW.2.1; omega
      · exact hb'.cell (p := ⟨W.heap.size - 1, 0, none⟩) (by show W.heap.size - 1 < W.heap.size; omega)
theorem ptFlat_len {ps : List (List Lt)} (h : ∀ p ∈ ps, p.length ≤ 64) : ps.flatten.length ≤ 64 * ps.length := by
  induction ps with
  | nil => simp
  | cons p r ih =>
    have h1 := ih fun q hq => h q (List.mem_cons_of_mem _ hq)
    have h2 := h p List.mem_cons_self
    rw [List.flatten_cons, List.length_append, List.length_cons]
    omega
theorem ptFlat_max {ps : List (List Lt)} (h : ∀ p ∈ ps, lotsOk p = true) : totC ps.flatten ≤ 1048576 * ps.flatten.length := by
  induction ps with
  | nil => simp [totC]
  | cons p r ih =>
    have h1 := ih fun q hq => h q (List.mem_cons_of_mem _ hq)
    have h2 := lotsOk_max (h p List.mem_cons_self)
    rw [List.flatten_cons, List.length_append, totC_app]
    omega
theorem ptFlat_pos {ps : List (List Lt)} (h : ∀ p ∈ ps, lotsOk p = true) : ∀ x ∈ ps.flatten, 0 < x.cnt := by
  intro x hx
  obtain ⟨p, hp, hxp⟩ := List.mem_flatten.1 hx
  exact lotsOk_pos (h p hp) x hxp
theorem ptFlat_facts {h : Hs} {ns : List ByteArray} {m : Nat} {ps : List (List Lt)} (h1 : partArg ns ps = false) (h2 : fullN h m ps = false) : ps.flatten.length ≤ 100000 ∧ ∀ g, posTot ps.flatten g ≤ 4611686018427387904 := by
  simp only [partArg, Bool.or_eq_false_iff, List.any_eq_false, Bool.not_eq_true', Bool.not_eq_false] at h1
  simp only [fullN, Bool.or_eq_false_iff, List.any_eq_false, decide_eq_false_iff_not, decide_eq_true_eq] at h2
  have h3 : ∀ p ∈ ps, lotsOk p = true := fun p hp => by simpa using h1.2.2.2 p hp
  have h4 := ptFlat_len (ps := ps) fun p hp => by have := h2.2.2 p hp; omega
  have h5 := ptFlat_max h3
  refine ⟨by omega, fun g => ?_⟩
  have h6 := posTot_totC (ptFlat_pos h3) g
  omega
def ptB (h : Hs) (n b : ByteArray) (ns : List ByteArray) (ps : List (List Lt)) : Nat → Bool :=
  sel (!thereB h n) (!decide (holdOf h n = b)) (partArg ns ps) (fullN h ns.length ps) (ns.any fun n => memB n h.used) (!sameL (joinL ps.flatten) (lotsOf h n))
theorem pt_code (h : Hs) (n b : ByteArray) (ns : List ByteArray) (ps : List (List Lt)) : firstFrom (sel 4 8 1 7 5 2) (ptB h n b ns ps) 6 0 = partC h n b ns ps := by
  have e : partC h n b ns ps = if ownC h n b = 0 then partR h (lotsOf h n) ns ps else ownC h n b := by
    unfold partC ownC lotsOf
    cases rfind h.L n with
    | none => rfl
    | some r =>
      show (if r.hold = b then partR h r.lots ns ps else 8) = if (if r.hold = b then (0 : Int) else 8) = 0 then partR h r.lots ns ps else (if r.hold = b then 0 else 8)
      by_cases hb : r.hold = b
      · rw [if_pos hb, if_pos hb, if_pos rfl]
      · rw [if_neg hb, if_neg hb, if_neg (by decide)]
  rw [e, ownC_eq]
  unfold partR
  show (if (!thereB h n) = true then (4 : Int) else if (!decide (holdOf h n = b)) = true then 8 else if partArg ns ps = true then 1 else if fullN h ns.length ps = true then 7 else if (ns.any fun n => memB n h.used) = true then 5 else if (!sameL (joinL ps.flatten) (lotsOf h n)) = true then 2 else 0) = _
  have hf : partArg ns ps = false → fullN h ns.length ps = partFull h ps := by
    intro h1
    simp only [partArg, Bool.or_eq_false_iff, Bool.not_eq_false', decide_eq_true_eq] at h1
    unfold fullN partFull
    rw [h1.2.1]
  generalize (!thereB h n) = p
  generalize (!decide (holdOf h n = b)) = q
  generalize fullN h ns.length ps = y at *
  generalize partFull h ps = y' at *
  generalize partArg ns ps = x at *
  generalize (ns.any fun n => memB n h.used) = z
  generalize sameL (joinL ps.flatten) (lotsOf h n) = u
  cases x
  · rw [hf rfl]
    cases p <;> cases q <;> cases y' <;> cases z <;> cases u <;> rfl
  · cases p <;> cases q <;> rfl
def ptFn : Nat → FuncId := sel 63 64 36 40 42 45
def ptCap (b5 b7 b8 s : Nat) : Nat → Array Value := sel #[.pointer (some ⟨b8, 0, none⟩)] #[.pointer (some ⟨b7, 0, none⟩), .pointer (some ⟨b5, 0, none⟩)] #[.pointer (some ⟨s + 1 + 1, 0, none⟩), .pointer (some ⟨s + 1, 0, none⟩)] #[.pointer (some ⟨s + 1 + 1, 0, none⟩), .pointer (some ⟨s, 0, none⟩), .pointer (some ⟨s + 1, 0, none⟩)] #[.pointer (some ⟨s + 1, 0, none⟩), .pointer (some ⟨s, 0, none⟩)] #[.pointer (some ⟨s + 1 + 1, 0, none⟩), .pointer (some ⟨s + 1 + 1 + 1, 0, none⟩)]
theorem pt_ent1 (args : Array Value) (w : World) : (callFunc 36 args).run Tryz.prog w = .ok (.enter 36 args) w := enters_of Tryz.func36 (by kernel_rfl) rfl args w
theorem pt_ent2 (args : Array Value) (w : World) : (callFunc 40 args).run Tryz.prog w = .ok (.enter 40 args) w := enters_of Tryz.func40 (by kernel_rfl) rfl args w
theorem pt_ent3 (args : Array Value) (w : World) : (callFunc 42 args).run Tryz.prog w = .ok (.enter 42 args) w := enters_of Tryz.func42 (by kernel_rfl) rfl args w
theorem pt_ent4 (args : Array Value) (w : World) : (callFunc 45 args).run Tryz.prog w = .ok (.enter 45 args) w := enters_of Tryz.func45 (by kernel_rfl) rfl args w
end Go.Proofs.YticnmmfiadpbbaaGreat.Sc
namespace Go.Proofs.YticnmmfiadpbbaaGreat.Sc
open Go Go.RowKit Go.ChangeShapes Go.WideShapes Go.ChangeAt
set_option maxRecDepth 100000

theorem partH_at (h : Hs) (n b : ByteArray) (ns : List ByteArray) (ps : List (List Lt)) (h0 : partC h n b ns ps = 0) : ∃ r, rfind h.L n = some r ∧ r.hold = b ∧ partR h r.lots ns ps = 0 ∧ partH h n b ns ps = ⟨h.name, partsL h.name b r.day (rdel h.L n) ns ps, h.used ++ ns⟩ := by
  obtain ⟨r, hr, hb, hp⟩ := partC_zero h0
  exact ⟨r, hr, hb, hp, by rw [partH, if_pos h0, hr]⟩
set_option maxHeartbeats 16000000 in
theorem partH_any {k bh bm bu : Nat} {h : Hs} (n b : ByteArray) (ns : List ByteArray) (L : List Np) (vn vp : Value) (w : World) (H : Hsx w bh bm bu h) (hok : HsOk k h) (hn : Sl w 1 vn (ns.map stRow)) (hp : NpAt w vp L) (hl : ns.length ≤ 100000) (hul : h.used.length ≤ 900000) :
    Calls Tryz.prog 15 #[.pointer (some ⟨bh, 0, none⟩), .string n, .string b, vn, vp] w (HsP w bh bm bu (partH h n b ns (npSnd L)) (partC h n b ns (npSnd L))) := by
  obtain ⟨an, cn, rfl⟩ : ∃ a c, vn = .slice a ns.length c := by simpa using hn.shape
  obtain ⟨ap, cp, rfl⟩ : ∃ a c, vp = .slice a L.length c := by simpa using hp.1.shape
  have hll : L.length ≤ 9223372036854775807 := by have := hp.1.len_le; simp only [List.length_map, maxLen] at this; omega
  obtain ⟨es, us, HH⟩ := H
  obtain ⟨c0, c1, a3, k3, c4, hg, hx3, hrc⟩ := rc_at HH n
  obtain ⟨o, ho⟩ : ∃ o, o = holdOf h n := ⟨_, rfl⟩
  obtain ⟨X, hX⟩ : ∃ X, X = lotsOf h n := ⟨_, rfl⟩
  rw [← ho, ← hX] at hg
  rw [← hX] at hx3
  have HA := allocs [.cells #[.pointer (some ⟨bh, 0, none⟩)] 25, .cells #[.slice an ns.length cn] 27, .cells #[.slice ap L.length cp] 41, .cells #[.string c0, .string c1, .string o, .slice a3 X.length k3, .int .i64 c4] 34] w
  simp only [List.foldl_cons, List.foldl_nil, List.length_cons, List.length_nil] at HA
  obtain ⟨W0, hW0⟩ : ∃ W, W = ((((w.alloc (.cells #[.pointer (some ⟨bh, 0, none⟩)] 25)).alloc (.cells #[.slice an ns.length cn] 27)).alloc (.cells #[.slice ap L.length cp] 41)).alloc (.cells #[.string c0, .string c1, .string o, .slice a3 X.length k3, .int .i64 c4] 34)) := ⟨_, rfl⟩
  rw [← hW0] at HA
  obtain ⟨hb, hz, hx⟩ := HA
  have x0 : B1 W0 w.heap.size _ _ := hx 0 _ rfl
  have x1 : B1 W0 (w.heap.size + 1) _ _ := hx 1 _ rfl
  have x2 : B1 W0 (w.heap.size + 2) _ _ := hx 2 _ rfl
  have x3 := hx 3 _ rfl
  have HX0 := Lib.hid x0
  have HX1 := Lib.hid x1
  have HX2 := Lib.hid x2
  have HX3 := Lib.hid x3
  have HB := Lib.hid hb
  have HZ := Lib.hid hz
  have HHW : Hid (HsAt w bh bm bu h es us) := Lib.hid HH
  have HH0 : Hid (Hsx W0 bh bm bu h) := Lib.hid ⟨es, us, HH.below hb⟩
  have HN0 := Lib.hid (hn.below hb (Nat.le_refl _))
  have HP0 := Lib.hid (hp.below hb)
  have HLX := Lib.hid (hx3.below hb (Nat.le_refl _))
  have HOW := Lib.hid (owned_any n b W0 HH0.out)
  obtain ⟨i0, hi, hz', hsz, hby⟩ := info_parts infoCk
  have HI := Lib.hid (And.intro hi (And.intro hz' (And.intro hsz hby)))
  have HOK := Lib.hid hok
  have HPC := Lib.hid (pt_code h n b ns (npSnd L))
  have HPH : Hid (partC h n b ns (npSnd L) ≠ 0 → partH h n b ns (npSnd L) = h) := Lib.hid (fun h0 => if_neg h0)
  have HPS := Lib.hid (partH_at h n b ns (npSnd L))
  have HLN := Lib.hid (And.intro hl hul)
  have HRC := Lib.hid hrc
  have HO := Lib.hid ho
  have HXE := Lib.hid hX
  have HG := Lib.hid hg
  have HRM := Lib.hid HH.rm
  have HBX := Lib.hid HH.box
  have HA3 : Hid (Below w.heap.size w (((w.alloc (.cells #[.pointer (some ⟨bh, 0, none⟩)] 25)).alloc (.cells #[.slice an ns.length cn] 27)).alloc (.cells #[.slice ap L.length cp] 41))) := Lib.hid (((one_below _ _).alloc (by simp) _).alloc (by simp <;> omega) _)
  have k1 := cell_blk (blk HA3.out (lt_blk HBX.out) HBX.out) 1
  simp only [List.getElem?_toArray, List.getElem?_cons_succ, List.getElem?_cons_zero] at k1
  have z0 := cell_blk HX0.out 0
  simp only [List.getElem?_toArray, List.getElem?_cons_zero] at z0
  generalize partH h n b ns (npSnd L) = PH at *
  generalize hPC : partC h n b ns (npSnd L) = PC at *
  have e0 := hW0.symm
  clear hb hz hx x0 x1 x2 x3 HH hok hi hz' hsz hby hW0 hPC hn hp hx3 hrc ho hX hg hl hul
  go_enter Tryz.func15, Tryz.ntmps15
  go_wp2_with (first
    | ((with_reducible refine Mp.wpl_val (l := es) (key := n) (v := .agg #[.string c0, .string c1, .string o, .slice a3 X.length k3, .int .i64 c4]) ?_ ?_ ?_ Tryz.underlying58 Tryz.underlying9 (zeroRc _) (HRM.out.same (HA3.out.block _ HRM.out.lt)) HG.out ?_); rfl; rfl; rfl)
    | fail)
  refine HOW.out.mono ?_
  rintro e w1 ⟨hb1, b5, b7, b8, v, rfl, ho1, hoa⟩
  obtain ⟨ac, cc, ev⟩ := row_shape ho1
  subst ev
  have HB1 := Lib.hid hb1
  have HO1 := Lib.hid ho1
  have HOA := Lib.hid hoa
  clear hb1 ho1 hoa k1 e0 z0 HOW
  have HBC := Lib.hid (one_below w1 (.cells #[.int .i64 1, .func (.func 36) #[] #[.pointer (some ⟨w.heap.size + 1 + 1, 0, none⟩), .pointer (some ⟨w.heap.size + 1, 0, none⟩)], .int .i64 7, .func (.func 40) #[] #[.pointer (some ⟨w.heap.size + 1 + 1, 0, none⟩), .pointer (some ⟨w.heap.size, 0, none⟩), .pointer (some ⟨w.heap.size + 1, 0, none⟩)], .int .i64 5, .func (.func 42) #[] #[.pointer (some ⟨w.heap.size + 1, 0, none⟩), .pointer (some ⟨w.heap.size, 0, none⟩)], .int .i64 2, .func (.func 45) #[] #[.pointer (some ⟨w.heap.size + 1 + 1, 0, none⟩), .pointer (some ⟨w.heap.size + 1 + 1 + 1, 0, none⟩)]] 71))
  have HOC := Lib.hid (ownsRow_below HO1.out HBC.out)
  have HSR := Lib.hid (src_block (m := 4) (c := 4) (sz := 2) (heap_alloc_new w1 (.cells #[.int .i64 1, .func (.func 36) #[] #[.pointer (some ⟨w.heap.size + 1 + 1, 0, none⟩), .pointer (some ⟨w.heap.size + 1, 0, none⟩)], .int .i64 7, .func (.func 40) #[] #[.pointer (some ⟨w.heap.size + 1 + 1, 0, none⟩), .pointer (some ⟨w.heap.size, 0, none⟩), .pointer (some ⟨w.heap.size + 1, 0, none⟩)], .int .i64 5, .func (.func 42) #[] #[.pointer (some ⟨w.heap.size + 1, 0, none⟩), .pointer (some ⟨w.heap.size, 0, none⟩)], .int .i64 2, .func (.func 45) #[] #[.pointer (some ⟨w.heap.size + 1 + 1, 0, none⟩), .pointer (some ⟨w.heap.size + 1 + 1 + 1, 0, none⟩)]] 71)) rfl)
  have HCL : Hid (2 + 4 ≤ maxLen ∧ (2 + 4) * 16 ≤ 140737488355328 ∧ W0.heap.size ≤ (w1.alloc (.cells #[.int .i64 1, .func (.func 36) #[] #[.pointer (some ⟨w.heap.size + 1 + 1, 0, none⟩), .pointer (some ⟨w.heap.size + 1, 0, none⟩)], .int .i64 7, .func (.func 40) #[] #[.pointer (some ⟨w.heap.size + 1 + 1, 0, none⟩), .pointer (some ⟨w.heap.size, 0, none⟩), .pointer (some ⟨w.heap.size + 1, 0, none⟩)], .int .i64 5, .func (.func 42) #[] #[.pointer (some ⟨w.heap.size + 1, 0, none⟩), .pointer (some ⟨w.heap.size, 0, none⟩)], .int .i64 2, .func (.func 45) #[] #[.pointer (some ⟨w.heap.size + 1 + 1, 0, none⟩), .pointer (some ⟨w.heap.size + 1 + 1 + 1, 0, none⟩)]] 71)).heap.size) := Lib.hid (by have := HBC.out.size; have := HB1.out.size; simp only [maxLen]; omega)
  go_wp2_with (first
    | ((with_reducible refine Any.wpl_cat ?_ ?_ ?_ Tryz.underlying73 HI.out.1 HI.out.2.1 HI.out.2.2.1 HI.out.2.2.2 ?_ (by decide) HOC.out HSR.out ?_ HCL.out.1 HCL.out.2.1 HCL.out.2.2 ?_); rfl; rfl; rfl; rfl; (simp [Value.oneCell']); intro v2 w2 hown2 hgrow2 hwho2
       have HO2 := Lib.hid hown2
       have HB2 : Hid (Below W0.heap.size W0 w2) := Lib.hid ((HB1.out.trans (HBC.out.mono HB1.out.size)).grown hgrow2 (Nat.le_trans HB1.out.size HBC.out.size) (fun k hk => (HO1.out.lt k hk).1))
       have HOA2 : Hid (OwnedAt w2 h n b b5 b7 b8) := Lib.hid (HOA.out.grown HO1.out HBC.out hgrow2)
       clear hown2 hgrow2 hwho2)
    | fail)
  obtain ⟨g, cg, rfl, hg1, hg2, hg3⟩ := ck_own (n := 6) (code := sel 4 8 1 7 5 2) (k := ptFn) (cap := ptCap b5 b7 b8 w.heap.size) (by decide) HO2.out
  have HF : Hid (Calls Tryz.prog 27 #[.slice (some ⟨g, 0, none⟩) 6 cg] w2 fun e w' => e = .returned (.int .i64 PC) ∧ Below w2.heap.size w2 w') := Lib.hid (by
    have hz := HZ.out
    have hs2 := HB2.out.size
    rw [← HPC.out]
    refine first_calm 6 cg (by decide) g (sel 4 8 1 7 5 2) ptFn (ptCap b5 b7 b8 w.heap.size) (ptB h n b ns (npSnd L)) w2 w2 hg2 (Below.refl _ _) ?_ hg3 ?_
    · intro i hi W
      match i, hi with
      | 0, _ => exact ow_ent1 _ W
      | 1, _ => exact ow_ent2 _ W
      | 2, _ => exact pt_ent1 _ W
      | 3, _ => exact pt_ent2 _ W
      | 4, _ => exact pt_ent3 _ W
      | 5, _ => exact pt_ent4 _ W
      | m + 6, h => omega
    · intro i W hi hbf hW
      have hbw := HB2.out.trans (hW.mono HB2.out.size)
      have H2 := HOA2.out.below hW
      have HE := (HHW.out.below HB.out).below hbw
      have X0 : B1 W w.heap.size (.pointer (some ⟨bh, 0, none⟩)) 25 := blk hbw (by omega) HX0.out
      have X1 : B1 W (w.heap.size + 1) (.slice an ns.length cn) 27 := blk hbw (by omega) HX1.out
      have X2 : B1 W (w.heap.size + 1 + 1) (.slice ap L.length cp) 41 := blk hbw (by omega) HX2.out
      have X3 := blk hbw (by omega) HX3.out
      have N0 := HN0.out.below hbw (Nat.le_refl _)
      have P0 := HP0.out.below hbw
      match i, hi with
      | 0, _ => exact H2.calls.1
      | 1, _ => exact H2.calls.2
      | 2, _ => exact part1 ns L _ _ _ _ W X2 X1 N0 P0 HLN.out.1
      | 3, _ => exact part2 ns L _ _ _ _ _ W HE X2 X0 X1 N0 P0 HLN.out.1 HLN.out.2
      | 4, _ => exact part3 ns _ _ _ W HE X1 X0 N0
      | 5, _ =>
        obtain ⟨f1, f2⟩ := ptFlat_facts (h := h) (ns := ns) (m := ns.length) (ps := npSnd L) (hbf 2 (by decide)) (hbf 3 (by decide))
        have := part4 L X _ _ _ _ _ _ _ _ W X2 X3 P0 (HLX.out.below hbw (Nat.le_refl _)) f1 f2
        rw [HXE.out] at this
        exact this
      | m + 6, h => omega)
  clear hg1 hg2 hg3
  refine HF.out.mono ?_
  rintro e w3 ⟨rfl, hb3⟩
  have HB3 : Hid (Below W0.heap.size W0 w3) := Lib.hid (HB2.out.trans (hb3.mono HB2.out.size))
  have HBW : Hid (Below w.heap.size w w3) := Lib.hid (HB.out.trans (HB3.out.mono HB.out.size))
  have HH3 := Lib.hid (HHW.out.below HBW.out)
  clear hb3
  by_cases h0 : PC = 0
  rotate_left
  · have t1 : (PC != 0) = true := by simp [h0]
    have HQ := Lib.hid (HPH.out h0)
    clear h0
    go_wp2_with fail
    go_ret
    exact ⟨rfl, Keep.of_below HBW.out, by rw [HQ.out]; exact ⟨_, _, HH3.out⟩⟩
  have t1 : (PC != 0) = false := by simp [h0]
  have HQ0 := Lib.hid h0
  obtain ⟨r, hr, hrb, hpr, hPH⟩ := HPS.out h0
  have HPZ := Lib.hid (partR_zero hpr)
  obtain ⟨r1, r2, r3⟩ := HRC.out r hr
  have HQ : Hid (PH = ⟨h.name, partsL h.name b c4 (rdel h.L n) ns (npSnd L), h.used ++ ns⟩) := Lib.hid (by rw [hPH, r3])
  have hz := HZ.out
  have HR0 : Hid (B1 w3 w.heap.size (.pointer (some ⟨bh, 0, none⟩)) 25) := Lib.hid (blk HB3.out (by omega) HX0.out)
  have HR1 : Hid (B1 w3 (w.heap.size + 1) (.slice an ns.length cn) 27) := Lib.hid (blk HB3.out (by omega) HX1.out)
  have HR2 : Hid (B1 w3 (w.heap.size + 1 + 1) (.slice ap L.length cp) 41) := Lib.hid (blk HB3.out (by omega) HX2.out)
  have HR3 := Lib.hid (blk HB3.out (show w.heap.size + 1 + 1 + 1 < W0.heap.size by omega) HX3.out)
  have HN3 := Lib.hid (HN0.out.below HB3.out (Nat.le_refl _))
  have HP3 := Lib.hid (HP0.out.below HB3.out)
  have z0 := cell_blk HR0.out 0
  have z1 := cell_blk HH3.out.box 1
  simp only [List.getElem?_toArray, List.getElem?_cons_succ, List.getElem?_cons_zero] at z0 z1
  have HRM3 := Lib.hid HH3.out.rm
  have HBL : Hid (bm < w.heap.size ∧ bu < w.heap.size ∧ w.heap.size + 1 + 1 + 1 < w3.heap.size) := Lib.hid ⟨HHW.out.lt.2.1, HHW.out.lt.2.2, by have := HB3.out.size; omega⟩
  clear hr hrb hpr hPH r1 r2 r3 h0 hz HPH HPS HRC HF HOA2 HO2 HOA HO1 HOC HSR HCL
  go_wp2_with (first
    | ((with_reducible refine Mp.wpl_deletem (b := bm) (l := es) (key := n) ?_ ?_ ?_ Tryz.underlying58 Tryz.underlying9 HRM3.out ?_); rfl; rfl; rfl; intro w7 hm7 hg7 hz7; have HM7 := Lib.hid hm7; have HK7 : Hid (Keep (fun b => b = bm) w3 w7) := Lib.hid ((Keep.of_grown hg7).mono fun _ _ e => (Option.some.inj e).symm)
       have HS7 := Lib.hid (HK7.out.blk HR2.out (fun e => by have := HBL.out; omega)); have zz := cell_blk HS7.out 0; simp only [List.getElem?_toArray, List.getElem?_cons_zero] at zz; clear hm7 hg7 hz7; go_frame)
    | fail)
  have HH7 := Lib.hid (HH3.out.delR (h' := ⟨h.name, rdel h.L n, h.used⟩) HK7.out HM7.out rfl rfl rfl)
  have HKB7 : Hid (Keep (fun q => q = bm ∨ q = bu) w3 w7) := Lib.hid (HK7.out.mono fun _ _ e => .inl e)
  have HNC : Hid (∀ q, (q = bm ∨ q = bu) → ∀ j, w3.cell? ⟨q, j, none⟩ = none) := Lib.hid (by
    rintro q (rfl | rfl) j
    · exact map_no_cell HH3.out.rm j
    · exact map_no_cell HH3.out.um j)
  have HIN : Hid (∀ r ∈ rdel h.L n, r.num ∈ h.used) := Lib.hid (fun r hr => HOK.out.inn r (mem_rdel.1 hr).1)
  have HNL : Hid (ns.length = L.length) := Lib.hid (by have := HPZ.out.1; rwa [np_len] at this)
  obtain ⟨PL, hPL⟩ : ∃ PL, PL = partsL h.name b c4 (rdel h.L n) ns (npSnd L) := ⟨_, rfl⟩
  have HPL := Lib.hid hPL
  rw [← hPL] at HQ
  clear hPL z0 z1 zz
  go_loopw [13, 14, 46] (fun _ _ i wr => ∃ (k : Nat) (Lk : List Rc), k ≤ L.length ∧ i = .int .i64 k ∧ Keep (fun q => q = bm ∨ q = bu) w3 wr ∧ Hsx wr bh bm bu ⟨h.name, Lk, h.used ++ ns.take k⟩ ∧ (∀ r ∈ Lk, r.num ∈ h.used ++ ns.take k) ∧ partsL h.name b c4 Lk (ns.drop k) ((npSnd L).drop k) = PL) (fun _ _ i _ => L.length - (intOf i).toNat)
  case atStart => exact ⟨0, rdel h.L n, Nat.zero_le _, rfl, HKB7.out, by rw [List.take_zero, List.append_nil]; exact ⟨_, _, HH7.out⟩, by rw [List.take_zero, List.append_nil]; exact HIN.out, HPL.out.symm⟩
  case round =>
    obtain ⟨k, Lk, hk, rfl, hkp, hhx, hin, hpl⟩ := hrel
    have HKP := Lib.hid hkp
    have HHX := Lib.hid hhx
    have HINK := Lib.hid hin
    by_cases hlt : k < L.length
    · have hlt' : k < ns.length := by have := HNL.out; omega
      have HPK : Hid (NpAt wr (.slice ap L.length cp) L) := Lib.hid ⟨HP3.out.1.keepM hkp HNC.out, fun q hq => (HP3.out.2 q hq).keepM hkp HNC.out⟩
      have HNK := Lib.hid (HN3.out.keepM hkp HNC.out)
      obtain ⟨bp, offp, rfl, -, hbp, hcp⟩ := HPK.out.1.at (i := k) (by simpa using hlt)
      have d0 : wr.cell? ⟨bp, offp + k * 1, none⟩ = some L[k].1 := hcp k [L[k].1] (by simp [hlt]) 0 _ rfl
      rw [Nat.mul_one] at d0
      obtain ⟨bn, offn, rfl, -, hbn, hcn⟩ := HNK.out.at (i := k) (by simpa using hlt')
      have d1 : wr.cell? ⟨bn, offn + k * 1, none⟩ = some (.string ns[k]) := hcn k (stRow ns[k]) (by simp [hlt']) 0 _ rfl
      rw [Nat.mul_one] at d1
      have hx := HPK.out.2 L[k] (List.getElem_mem hlt)
      have HTK : Hid (ns.take (k + 1) = ns.take k ++ [ns[k]]) := Lib.hid (List.take_succ_eq_append_getElem hlt')
      have hlk : k < (npSnd L).length := by rw [np_len]; exact hlt
      have hge : (npSnd L)[k] = L[k].2 := by simp [npSnd]
      rw [List.drop_eq_getElem_cons hlt', List.drop_eq_getElem_cons hlk, hge] at hpl
      have hlo := HPZ.out.2.2.1 L[k].2 (List.mem_map_of_mem (List.getElem_mem hlt))
      have hl6 := HPZ.out.2.2.2.2.1 L[k].2 (List.mem_map_of_mem (List.getElem_mem hlt))
      have hnu : ns[k] ∉ h.used ++ ns.take k := by
        rw [List.mem_append, not_or]
        refine ⟨HPZ.out.2.2.2.2.2.1 ns[k] (List.getElem_mem hlt'), fun he => ?_⟩
        have hnd := (numsFrom_ok HPZ.out.2.1).2
        rw [← List.take_append_drop k ns, List.nodup_append] at hnd
        refine hnd.2.2 ns[k] he ns[k] ?_ rfl
        rw [List.drop_eq_getElem_cons hlt']
        exact List.mem_cons_self
      generalize L[k] = x at *
      generalize ns[k] = xs at *
      obtain ⟨xv, xl⟩ := x
      simp only at d0 hx hpl hlo hl6
      obtain ⟨ax, cx, rfl⟩ : ∃ a c, xv = .slice a xl.length c := by simpa using hx.shape
      have HD1 := Lib.hid d1
      have HBN := Lib.hid hbn
      have HXS := Lib.hid hx
      have HPLK := Lib.hid hpl
      have hb0 := HBL.out
      have HRA0 := Lib.hid (hkp.blk HR0.out (fun e => by omega))
      have HRA1 := Lib.hid (hkp.blk HR1.out (fun e => by omega))
      have HRA3 := Lib.hid (hkp.blk HR3.out (fun e => by omega))
      obtain ⟨S2, hS2⟩ : ∃ S : List ByteArray, S = h.used ++ ns.take k := ⟨_, rfl⟩
      rw [← hS2] at HHX HINK hnu
      have HS2 := Lib.hid hS2
      have HPU := Lib.hid (fun W (hb : Below wr.heap.size wr W) => putH_any xs b c4 xl (.slice ax xl.length cx) W (HHX.out.below hb) (HXS.out.below hb (Nat.le_refl _)) (by omega) (fun g => by
        have h1 := posTot_totC (lotsOk_pos hlo) g
        have h2 := lotsOk_max hlo
        omega) (memB_no.2 hnu) (fun r hr e => hnu (by rw [← e]; exact HINK.out r hr)))
      clear hbp hcp hbn hcn hx hpl hlo hl6 hnu hlk hge hkp hhx hin d1 hS2 hb0
      go_wp2_with fail
      refine Any.region_litL (fun
        | 0 => Any.val (.pointer (some ⟨bh, 0, none⟩))
        | 1 => Any.val (.slice (some ⟨bn, offn, none⟩) ns.length cn)
        | 2 => Any.val (.int .i64 k)
        | 3 => Any.val (.pointer (some ⟨bn, offn + k, none⟩))
        | 4 => Any.val (.string xs)
        | 5 => Any.val (.string b)
        | 6 => Any.val (.pointer (some ⟨w.heap.size + 1 + 1 + 1, 4, none⟩))
        | 7 => Any.val (.int .i64 c4)
        | 8 => Any.val (.slice ax xl.length cx)
        | _ => Any.idle) 9 _ (by kernel_rfl) rfl rfl rfl (by kernel_rfl) (by kernel_rfl) (by kernel_rfl) ?_ ?_ ?_
      · intro i _
        match i with
        | 0 => exact Any.lasts_val _
        | 1 => exact Any.lasts_val _
        | 2 => exact Any.lasts_val _
        | 3 => exact Any.lasts_val _
        | 4 => exact Any.lasts_val _
        | 5 => exact Any.lasts_val _
        | 6 => exact Any.lasts_val _
        | 7 => exact Any.lasts_val _
        | 8 => exact Any.lasts_val _
        | n + 9 => exact Any.lasts_idle
      · simp only [List.take_succ_cons, List.take_zero]
        refine ⟨?_, ?_, ?_, ?_, ?_, ?_, ?_, ?_, ?_, trivial⟩
        · refine Any.owes_plain rfl fun ρ wo hs' hb hc' => ?_
          have h5 : ρ (.tmp 5) = .pointer (some ⟨w.heap.size, 0, none⟩) := hs'.old' 5 (by kernel_rfl)
          have c0 := cell_blk (blk (below_undrew hb) (lt_blk HRA0.out) HRA0.out) 0
          simp only [List.getElem?_toArray, List.getElem?_cons_zero] at c0
          go_simp
          exact Any.post_val hb rfl rfl
        · refine Any.owes_plain rfl fun ρ wo hs' hb hc' => ?_
          have h8 : ρ (.tmp 8) = .pointer (some ⟨w.heap.size + 1, 0, none⟩) := hs'.old' 8 (by kernel_rfl)
          have c0 := cell_blk (blk (below_undrew hb) (lt_blk HRA1.out) HRA1.out) 0
          simp only [List.getElem?_toArray, List.getElem?_cons_zero] at c0
          go_simp
          exact Any.post_val hb rfl rfl
        · refine Any.owes_plain rfl fun ρ wo hs' hb hc' => ?_
          have h13 : ρ (.tmp 13) = .int .i64 k := hs'.old' 13 (by kernel_rfl)
          exact Any.ok_move (Any.post_val hb rfl h13)
        · refine Any.owes_plain rfl fun ρ wo hs' hb hc' => ?_
          have h52 : ρ (.tmp 52) = .slice (some ⟨bn, offn, none⟩) ns.length cn := hs'.new' 52 1 (by kernel_rfl)
          have h53 : ρ (.tmp 53) = .int .i64 k := hs'.new' 53 2 (by kernel_rfl)
          go_simp
          exact Any.post_val hb rfl rfl
        · refine Any.owes_plain rfl fun ρ wo hs' hb hc' => ?_
          have h54 : ρ (.tmp 54) = .pointer (some ⟨bn, offn + k, none⟩) := hs'.new' 54 3 (by kernel_rfl)
          have y0 := ((below_undrew hb).cell (p := ⟨bn, offn + k, none⟩) HBN.out).trans HD1.out
          go_simp
          exact Any.post_val hb rfl rfl
        · refine Any.owes_plain rfl fun ρ wo hs' hb hc' => ?_
          have h2 : ρ (.tmp 2) = .string b := hs'.old' 2 (by kernel_rfl)
          exact Any.ok_move (Any.post_val hb rfl h2)
        · refine Any.owes_plain rfl fun ρ wo hs' hb hc' => ?_
          have h11 : ρ (.tmp 11) = .pointer (some ⟨w.heap.size + 1 + 1 + 1, 0, none⟩) := hs'.old' 11 (by kernel_rfl)
          go_simp
          exact Any.post_val hb rfl rfl
        · refine Any.owes_plain rfl fun ρ wo hs' hb hc' => ?_
          have h57 : ρ (.tmp 57) = .pointer (some ⟨w.heap.size + 1 + 1 + 1, 4, none⟩) := hs'.new' 57 6 (by kernel_rfl)
          obtain ⟨-, -, -, -, y4⟩ := five_blk (blk (below_undrew hb) (lt_blk HRA3.out) HRA3.out)
          go_simp
          exact Any.post_val hb rfl rfl
        · refine Any.owes_plain rfl fun ρ wo hs' hb hc' => ?_
          have h14 : ρ (.tmp 14) = .slice ax xl.length cx := hs'.old' 14 (by kernel_rfl)
          exact Any.ok_move (Any.post_val hb rfl h14)
      intro vals w5 hb hk
      have h51 : vals 0 = .pointer (some ⟨bh, 0, none⟩) := hk 0 (by kernel_rfl)
      have h55 : vals 4 = .string xs := hk 4 (by kernel_rfl)
      have h56 : vals 5 = .string b := hk 5 (by kernel_rfl)
      have h58 : vals 7 = .int .i64 c4 := hk 7 (by kernel_rfl)
      have h59 : vals 8 = .slice ax xl.length cx := hk 8 (by kernel_rfl)
      have HB5 : Hid (Below wr.heap.size wr w5) := Lib.hid hb
      clear hk hb
      simp only [List.take_succ_cons, List.take_zero, Any.putAll]
      go_frame
      simp only [Nat.zero_add, Nat.reduceAdd]
      rw [h51, h55, h56, h58, h59]
      clear h51 h55 h56 h58 h59
      go_simp
      refine (HPU.out w5 HB5.out).mono ?_
      rintro e w6 ⟨rfl, hk6, hx6⟩
      refine ⟨_, rfl, ?_⟩
      have HK6 := Lib.hid ((Keep.of_below (F := fun q => q = bm ∨ q = bu) HB5.out).trans hk6 fun _ _ e => e)
      have HX6 := Lib.hid hx6
      clear hk6 hx6
      go_wp2_with fail
      go_roundw
      case rel => exact ⟨k + 1, rput Lk ⟨xs, h.name, b, joinL xl, c4⟩, by omega, by go_num, HKP.out.trans HK6.out fun _ _ e => e, by rw [HTK.out, ← List.append_assoc, ← HS2.out]; exact HX6.out,
        fun r hr => by
          rw [HTK.out, ← List.append_assoc, ← HS2.out, List.mem_append]
          rcases mem_rput.1 hr with e | e
          · rw [e]; exact .inr (List.mem_singleton.2 rfl)
          · exact .inl (HINK.out r e), HPLK.out⟩
      case measure => (simp [intOf]) <;> omega
    · have HE : Hid (ns.take k = ns ∧ Lk = PL) := Lib.hid (by
        have h1 := HNL.out
        rw [List.drop_of_length_le (by omega), List.drop_of_length_le (by rw [np_len]; omega)] at hpl
        exact ⟨List.take_of_length_le (by omega), hpl⟩)
      clear hkp hhx hin hpl
      go_wp2_with fail
      go_ret
      refine ⟨by rw [HQ0.out]; first | rfl | skip, (Keep.of_below HBW.out).trans HKP.out fun _ _ e => e, ?_⟩
      have h2 := HHX.out
      rw [HE.out.1, HE.out.2] at h2
      rw [HQ.out]
      exact h2
end Go.Proofs.YticnmmfiadpbbaaGreat.Sc
