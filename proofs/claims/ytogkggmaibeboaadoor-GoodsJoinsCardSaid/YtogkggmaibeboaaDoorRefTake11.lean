/- What is left of lots when others are taken: by the reference. -/
import Derived.Test.YtogkggmaibeboaaDoorRefJoin11
import Derived.Test.YtogkggmaibeboaaDoorTake11
namespace Go.Proofs.YtogkggmaibeboaaDoor.Sc
open Go Go.RowKit Go.ChangeShapes Go.WideShapes Go.ChangeAt
set_option maxRecDepth 100000

set_option maxHeartbeats 4000000 in
theorem refHas_any (l : List Lt) (n : ByteArray) (v : Value) (w : World) (hs : Sl w 2 v (l.map Lt.row)) (hl : l.length ≤ 4000) (hT : ∀ n, posTot l n ≤ 4611686018427387904) :
    Calls Tryd.prog 43 #[v, .string n] w (Ret w (.int .i64 (posTot l n))) := by
  obtain ⟨a, c, rfl⟩ : ∃ a c, v = .slice a l.length c := by simpa using hs.shape
  have hll : l.length ≤ 9223372036854775807 := by omega
  have HS := Lib.hid hs
  have HT := Lib.hid (hT n)
  clear hs hl hT
  go_enter Tryd.func43, Tryd.ntmps43
  go_wp2_with fail
  go_loopw [5, 6] (fun acc i wr => ∃ k : Nat, k ≤ l.length ∧ i = .int .i64 k ∧ acc = .int .i64 (posTot (l.take k) n) ∧ Below w.heap.size w wr) (fun _ i _ => l.length - (intOf i).toNat)
  case atStart => exact ⟨0, Nat.zero_le _, rfl, rfl, Below.refl _ _⟩
  case round =>
    obtain ⟨k, hk, rfl, rfl, hbel⟩ := hrel
    have HBEL := Lib.hid hbel
    by_cases hlt : k < l.length
    · obtain ⟨b, off, rfl, -, hb, hc⟩ := HS.out.at (i := k) (by simpa using hlt)
      have d0 := (hbel.cell (p := ⟨b, off + k * 2, none⟩) hb).trans (hc k l[k].row (by simp [hlt]) 0 _ rfl)
      have d1 := (hbel.cell (p := ⟨b, off + k * 2 + 1, none⟩) hb).trans (hc k l[k].row (by simp [hlt]) 1 _ rfl)
      have hsn := posTot_snoc (l.take k) l[k] n
      rw [← List.take_succ_eq_append_getElem hlt] at hsn
      have hle : posTot (l.take (k + 1)) n ≤ 4611686018427387904 := by
        have h1 : posTot l n = posTot (l.take (k + 1)) n + posTot (l.drop (k + 1)) n := by rw [← posTot_append, List.take_append_drop]
        have h2 := posTot_nonneg (l.drop (k + 1)) n
        have := HT.out
        omega
      have h0 := posTot_nonneg (l.take k) n
      generalize l[k] = x at *
      obtain ⟨xn, xc⟩ := x
      simp only at d0 d1 hsn
      have HSN := Lib.hid hsn
      clear hc hb hbel
      generalize posTot (l.take k) n = O at *
      by_cases hn : xn = n
      · have t1 : (xn.toList == n.toList) = true := by rw [str_beq, decide_eq_true hn]
        by_cases hp : 0 < xc
        · have t2 : decide (0 < xc) = true := decide_eq_true hp
          rw [if_pos ⟨hn, hp⟩] at hsn HSN
          have e1 : wrap64 (O + xc) = O + xc := wrap_q (by omega)
          have e2 : IntKind.i64.wrap (O + xc) = O + xc := IntWalk.i64_in _ (by omega)
          clear hn hsn
          go_wp2_with fail
          go_roundw
          case rel => exact ⟨k + 1, by omega, by go_num, by first | (rw [HSN.out]) | (rw [HSN.out, e1]) | (rw [HSN.out, e2]), HBEL.out⟩
          case measure => (simp [intOf]) <;> omega
        · have t2 : decide (0 < xc) = false := decide_eq_false hp
          rw [if_neg (fun h => hp h.2), Int.add_zero] at hsn HSN
          clear hn hsn hp
          go_wp2_with fail
          go_roundw
          case rel => exact ⟨k + 1, by omega, by go_num, by rw [HSN.out], HBEL.out⟩
          case measure => (simp [intOf]) <;> omega
      · have t1 : (xn.toList == n.toList) = false := by rw [str_beq, decide_eq_false hn]
        rw [if_neg (fun h => hn h.1), Int.add_zero] at hsn HSN
        clear hn hsn
        go_wp2_with fail
        go_roundw
        case rel => exact ⟨k + 1, by omega, by go_num, by rw [HSN.out], HBEL.out⟩
        case measure => (simp [intOf]) <;> omega
    · have HE : Hid (l.take k = l) := Lib.hid (List.take_of_length_le (by omega))
      clear hbel hk
      go_wp2_with fail
      go_ret
      exact ⟨by rw [HE.out]; rfl, HBEL.out⟩
theorem can_iff {l m : List Lt} : canTake l m ↔ ∀ x ∈ joinL m, x.cnt ≤ posTot l x.good := by
  constructor
  · intro h x hx
    have h1 := (mem_norm (joinL_norm m)).1 hx
    rw [joinL_tot] at h1
    have := h x.good
    omega
  · intro h n
    by_cases h0 : 0 < posTot m n
    · have := h ⟨n, posTot m n⟩ ((mem_norm (joinL_norm m)).2 ⟨h0, joinL_tot m n⟩)
      exact this
    · have := posTot_nonneg l n
      omega
def leftF (m : List Lt) (x : Lt) : Option Lt := if x.cnt - posTot m x.good = 0 then none else some ⟨x.good, x.cnt - posTot m x.good⟩
theorem leftL_is (l m : List Lt) : leftL l m = (joinL l).filterMap (leftF m) := rfl
theorem left_snoc {A m : List Lt} {k : Nat} (h : k < A.length) : (A.take (k + 1)).filterMap (leftF m) = if A[k].cnt - posTot m A[k].good = 0 then (A.take k).filterMap (leftF m) else (A.take k).filterMap (leftF m) ++ [⟨A[k].good, A[k].cnt - posTot m A[k].good⟩] := by
  rw [List.take_succ_eq_append_getElem h, List.filterMap_append]
  by_cases h0 : A[k].cnt - posTot m A[k].good = 0
  · rw [if_pos h0]
    simp [leftF, h0]
  · rw [if_neg h0]
    simp [leftF, h0]
set_option maxHeartbeats 16000000 in
theorem refTake_any (l m : List Lt) (v1 v2 : Value) (w : World) (hs1 : Sl w 2 v1 (l.map Lt.row)) (hs2 : Sl w 2 v2 (m.map Lt.row)) (hl : l.length ≤ 4000) (hm : m.length ≤ 4000) (hcl : ∀ x ∈ l, x.cnt ≤ 1099511627776) (hcm : ∀ x ∈ m, x.cnt ≤ 1099511627776) :
    Calls Tryd.prog 24 #[v1, v2] w (TakeP w l m) := by
  have HJ1 := Lib.hid (refJoin_any l v1 w hs1 hl hcl)
  have HJ2 := Lib.hid (fun W (hW : Below w.heap.size w W) => refJoin_any m v2 W (hs2.below hW (Nat.le_refl _)) hm hcm)
  have HPL : Hid (∀ n, 0 ≤ posTot l n ∧ posTot l n ≤ 1099511627776 * 4000) := Lib.hid fun n => by
    have := posTot_le hcl n; have := posTot_nonneg l n; omega
  have HPM : Hid (∀ n, 0 ≤ posTot m n ∧ posTot m n ≤ 1099511627776 * 4000) := Lib.hid fun n => by
    have := posTot_le hcm n; have := posTot_nonneg m n; omega
  have HAL : Hid ((joinL l).length ≤ 4000) := Lib.hid (Nat.le_trans (joinL_length l) hl)
  have HBN : Hid ((joinL m).length ≤ 4000) := Lib.hid (Nat.le_trans (joinL_length m) hm)
  have HHL := Lib.hid (fun n v W (h : Sl W 2 v ((joinL l).map Lt.row)) => (by
    have := refHas_any (joinL l) n v W h HAL.out (fun n => by rw [joinL_tot]; have := HPL.out n; omega)
    rwa [joinL_tot] at this : Calls Tryd.prog 43 #[v, .string n] W (Ret W (.int .i64 (posTot l n)))))
  have HHM := Lib.hid (fun n v W (h : Sl W 2 v ((joinL m).map Lt.row)) => (by
    have := refHas_any (joinL m) n v W h HBN.out (fun n => by rw [joinL_tot]; have := HPM.out n; omega)
    rwa [joinL_tot] at this : Calls Tryd.prog 43 #[v, .string n] W (Ret W (.int .i64 (posTot m n)))))
  have HCI := Lib.hid (can_iff (l := l) (m := m))
  have HLI := Lib.hid (leftL_is l m)
  have HAB : Hid (∀ x ∈ joinL l, 0 ≤ x.cnt ∧ x.cnt ≤ 1099511627776 * 4000) := Lib.hid fun x hx => by
    have h1 := (mem_norm (joinL_norm l)).1 hx
    rw [joinL_tot] at h1
    have := HPL.out x.good
    omega
  generalize joinL l = A at *
  generalize joinL m = B at *
  clear hs1 hs2 hl hm hcl hcm
  obtain ⟨i0, hi, hz, hsz, hby⟩ := info_parts infoLt
  have HI := Lib.hid (And.intro hi (And.intro hz (And.intro hsz hby)))
  clear hi hz hsz hby
  go_enter Tryd.func24, Tryd.ntmps24
  go_wp2_with (first
    | ((with_reducible refine HJ1.out.mono ?_); rintro e w1 ⟨v6, rfl, ho1, hb1⟩; have HSA := Lib.hid (own_lots ho1 rfl); obtain ⟨a6, c6, rfl⟩ : ∃ a c, v6 = .slice a A.length c := (by simpa using HSA.out.shape); have HB := Lib.hid hb1; clear ho1 hb1)
    | ((with_reducible refine (HJ2.out _ HB.out).mono ?_); rintro e w2 ⟨v7, rfl, ho2, hb2⟩; have HSB := Lib.hid (own_lots ho2 rfl); obtain ⟨a7, c7, rfl⟩ : ∃ a c, v7 = .slice a B.length c := (by simpa using HSB.out.shape); have HSA := Lib.hid (HSA.out.below hb2 (Nat.le_refl _)); have HB := Lib.hid (HB.out.trans (hb2.mono HB.out.size)); clear ho2 hb2)
    | fail)
  have hla := HAL.out
  have hlb := HBN.out
  go_loopw [8] (fun i wr => ∃ k : Nat, k ≤ B.length ∧ i = .int .i64 k ∧ (∀ j (h : j < B.length), j < k → B[j].cnt ≤ posTot l B[j].good) ∧ Below w2.heap.size w2 wr) (fun i _ => B.length - (intOf i).toNat)
  case atStart => exact ⟨0, Nat.zero_le _, rfl, fun _ _ h => absurd h (by omega), Below.refl _ _⟩
  case round =>
    obtain ⟨k, hk, rfl, hlo, hbel⟩ := hrel
    have HLO := Lib.hid hlo
    have HBL := Lib.hid hbel
    clear hlo hbel
    by_cases hlt : k < B.length
    · obtain ⟨b, off, rfl, -, hb, hc⟩ := HSB.out.at (i := k) (by simpa using hlt)
      have hr := hc k B[k].row (by rw [List.getElem?_map, List.getElem?_eq_getElem hlt]; rfl)
      have HYN := Lib.hid (fun W (hW : Below w2.heap.size w2 W) => (hW.cell (p := ⟨b, off + k * 2, none⟩) hb).trans (hr 0 _ rfl))
      have HYC := Lib.hid (fun W (hW : Below w2.heap.size w2 W) => (hW.cell (p := ⟨b, off + k * 2 + 1, none⟩) hb).trans (hr 1 _ rfl))
      have HH := Lib.hid (fun W (hW : Below w2.heap.size w2 W) => HHL.out B[k].good _ W (HSA.out.below hW (Nat.le_refl _)))
      have HK := Lib.hid hlt
      have tk : ((k : Nat) : Int) < (B.length : Int) := by omega
      have HBD : Hid (posTot l B[k].good < B[k].cnt → ¬ canTake l m) := Lib.hid fun h1 h2 => by
        have := HCI.out.1 h2 _ (List.getElem_mem hlt)
        omega
      have HST : Hid (¬ posTot l B[k].good < B[k].cnt → ∀ j (h : j < B.length), j < k + 1 → B[j].cnt ≤ posTot l B[j].good) := Lib.hid fun h0 j h hj => by
        rcases Nat.lt_or_ge j k with h1 | h1
        · exact HLO.out j h h1
        · obtain rfl : j = k := by omega
          exact Int.not_lt.1 h0
      generalize posTot l B[k].good = H at *
      generalize B[k].good = yn at *
      generalize B[k].cnt = yc at *
      clear hb hc hr hlt hk
      by_cases hx : H < yc
      · have t1 : decide (H < yc) = true := decide_eq_true hx
        have HBAD := Lib.hid (HBD.out hx)
        clear hx HST
        go_wp2_with fail
        refine Any.region_lit (fun
          | 0 => Any.val (.slice (some ⟨b, off, none⟩) B.length c7)
          | 1 => Any.val (.int .i64 (k : Int))
          | 2 => Any.val (.pointer (some ⟨b, off + k * 2, none⟩))
          | 3 => Any.val (.pointer (some ⟨b, off + k * 2 + 1, none⟩))
          | 4 => Any.val (.int .i64 yc)
          | 5 => Any.val (.slice a6 A.length c6)
          | 6 => Any.val (.slice (some ⟨b, off, none⟩) B.length c7)
          | 7 => Any.val (.int .i64 (k : Int))
          | 8 => Any.val (.pointer (some ⟨b, off + k * 2, none⟩))
          | 9 => Any.val (.pointer (some ⟨b, off + k * 2, none⟩))
          | 10 => Any.val (.string yn)
          | 11 => Any.val (.int .i64 H)
          | 12 => Any.val (.bool true)
          | _ => Any.idle) (by kernel_rfl) (by kernel_rfl) (by kernel_rfl) ?_ ?_ ?_
        · intro i _
          match i with
          | 0 => exact Any.lasts_val _
          | 1 => exact Any.lasts_val _
          | 2 => exact Any.lasts_val _
          | 3 => exact Any.lasts_val _
          | 4 => exact Any.lasts_val _
          | 5 => exact Any.lasts_val _
          | 6 => exact Any.lasts_val _
          | 7 => exact Any.lasts_val _
          | 8 => exact Any.lasts_val _
          | 9 => exact Any.lasts_val _
          | 10 => exact Any.lasts_val _
          | 11 => exact Any.lasts_val _
          | 12 => exact Any.lasts_val _
          | n + 13 => exact Any.lasts_idle
        · refine ⟨?_, ?_, ?_, ?_, ?_, ?_, ?_, ?_, ?_, ?_, ?_, ?_, ?_, trivial⟩
          · refine Any.owes_plain rfl fun ρ wo hs' hb hc' => ?_
            have h7 : ρ (.tmp 7) = .slice (some ⟨b, off, none⟩) B.length c7 := hs'.old' 7 (by kernel_rfl)
            exact Any.ok_move (Any.post_val hb rfl h7)
          · refine Any.owes_plain rfl fun ρ wo hs' hb hc' => ?_
            have h8 : ρ (.tmp 8) = .int .i64 (k : Int) := hs'.old' 8 (by kernel_rfl)
            exact Any.ok_move (Any.post_val hb rfl h8)
          · refine Any.owes_plain rfl fun ρ wo hs' hb hc' => ?_
            have h22 : ρ (.tmp 22) = .slice (some ⟨b, off, none⟩) B.length c7 := hs'.new' 22 0 (by kernel_rfl)
            have h23 : ρ (.tmp 23) = .int .i64 (k : Int) := hs'.new' 23 1 (by kernel_rfl)
            go_simp
            exact Any.post_val hb rfl rfl
          · refine Any.owes_plain rfl fun ρ wo hs' hb hc' => ?_
            have h24 : ρ (.tmp 24) = .pointer (some ⟨b, off + k * 2, none⟩) := hs'.new' 24 2 (by kernel_rfl)
            go_simp
            exact Any.post_val hb rfl rfl
          · refine Any.owes_plain rfl fun ρ wo hs' hb hc' => ?_
            have h25 : ρ (.tmp 25) = .pointer (some ⟨b, off + k * 2 + 1, none⟩) := hs'.new' 25 3 (by kernel_rfl)
            have c0 := HYC.out wo (HBL.out.trans ((below_undrew hb).mono HBL.out.size))
            go_simp
            exact Any.post_val hb rfl rfl
          · refine Any.owes_plain rfl fun ρ wo hs' hb hc' => ?_
            have h6 : ρ (.tmp 6) = .slice a6 A.length c6 := hs'.old' 6 (by kernel_rfl)
            exact Any.ok_move (Any.post_val hb rfl h6)
          · refine Any.owes_plain rfl fun ρ wo hs' hb hc' => ?_
            have h7 : ρ (.tmp 7) = .slice (some ⟨b, off, none⟩) B.length c7 := hs'.old' 7 (by kernel_rfl)
            exact Any.ok_move (Any.post_val hb rfl h7)
          · refine Any.owes_plain rfl fun ρ wo hs' hb hc' => ?_
            have h8 : ρ (.tmp 8) = .int .i64 (k : Int) := hs'.old' 8 (by kernel_rfl)
            exact Any.ok_move (Any.post_val hb rfl h8)
          · refine Any.owes_plain rfl fun ρ wo hs' hb hc' => ?_
            have h28 : ρ (.tmp 28) = .slice (some ⟨b, off, none⟩) B.length c7 := hs'.new' 28 6 (by kernel_rfl)
            have h29 : ρ (.tmp 29) = .int .i64 (k : Int) := hs'.new' 29 7 (by kernel_rfl)
            go_simp
            exact Any.post_val hb rfl rfl
          · refine Any.owes_plain rfl fun ρ wo hs' hb hc' => ?_
            have h30 : ρ (.tmp 30) = .pointer (some ⟨b, off + k * 2, none⟩) := hs'.new' 30 8 (by kernel_rfl)
            go_simp
            exact Any.post_val hb rfl rfl
          · refine Any.owes_plain rfl fun ρ wo hs' hb hc' => ?_
            have h31 : ρ (.tmp 31) = .pointer (some ⟨b, off + k * 2, none⟩) := hs'.new' 31 9 (by kernel_rfl)
            have c0 := HYN.out wo (HBL.out.trans ((below_undrew hb).mono HBL.out.size))
            go_simp
            exact Any.post_val hb rfl rfl
          · refine Any.owes_plain rfl fun ρ wo hs' hb hc' => ?_
            have h27 : ρ (.tmp 27) = .slice a6 A.length c6 := hs'.new' 27 5 (by kernel_rfl)
            have h32 : ρ (.tmp 32) = .string yn := hs'.new' 32 10 (by kernel_rfl)
            have hf := hs'.func 43
            go_simp
            exact (HH.out wo (HBL.out.trans ((below_undrew hb).mono HBL.out.size))).mono fun e w' ⟨he, hb'⟩ => ⟨_, he, Any.post_vals hb rfl rfl hb'⟩
          · refine Any.owes_plain rfl fun ρ wo hs' hb hc' => ?_
            have h26 : ρ (.tmp 26) = .int .i64 yc := hs'.new' 26 4 (by kernel_rfl)
            have h33 : ρ (.tmp 33) = .int .i64 H := hs'.new' 33 11 (by kernel_rfl)
            go_simp
            exact Any.post_val hb rfl rfl
        intro vals w5 hb hk ha
        have h12 : vals 12 = .bool true := hk 12 (by kernel_rfl)
        have HBL := Lib.hid (HBL.out.trans (hb.mono HBL.out.size))
        clear hk ha hb
        simp only [Any.putAll]
        go_frame
        simp only [Nat.zero_add, Nat.reduceAdd]
        rw [h12]
        clear h12
        go_wp2_with fail
        go_ret2
        exact .inr ⟨HBAD.out, rfl, HB.out.trans (HBL.out.mono HB.out.size)⟩
      · have t1 : decide (H < yc) = false := decide_eq_false hx
        have HNX := Lib.hid (HST.out hx)
        clear hx HBD
        go_wp2_with fail
        refine Any.region_lit (fun
          | 0 => Any.val (.slice (some ⟨b, off, none⟩) B.length c7)
          | 1 => Any.val (.int .i64 (k : Int))
          | 2 => Any.val (.pointer (some ⟨b, off + k * 2, none⟩))
          | 3 => Any.val (.pointer (some ⟨b, off + k * 2 + 1, none⟩))
          | 4 => Any.val (.int .i64 yc)
          | 5 => Any.val (.slice a6 A.length c6)
          | 6 => Any.val (.slice (some ⟨b, off, none⟩) B.length c7)
          | 7 => Any.val (.int .i64 (k : Int))
          | 8 => Any.val (.pointer (some ⟨b, off + k * 2, none⟩))
          | 9 => Any.val (.pointer (some ⟨b, off + k * 2, none⟩))
          | 10 => Any.val (.string yn)
          | 11 => Any.val (.int .i64 H)
          | 12 => Any.val (.bool false)
          | _ => Any.idle) (by kernel_rfl) (by kernel_rfl) (by kernel_rfl) ?_ ?_ ?_
        · intro i _
          match i with
          | 0 => exact Any.lasts_val _
          | 1 => exact Any.lasts_val _
          | 2 => exact Any.lasts_val _
          | 3 => exact Any.lasts_val _
          | 4 => exact Any.lasts_val _
          | 5 => exact Any.lasts_val _
          | 6 => exact Any.lasts_val _
          | 7 => exact Any.lasts_val _
          | 8 => exact Any.lasts_val _
          | 9 => exact Any.lasts_val _
          | 10 => exact Any.lasts_val _
          | 11 => exact Any.lasts_val _
          | 12 => exact Any.lasts_val _
          | n + 13 => exact Any.lasts_idle
        · refine ⟨?_, ?_, ?_, ?_, ?_, ?_, ?_, ?_, ?_, ?_, ?_, ?_, ?_, trivial⟩
          · refine Any.owes_plain rfl fun ρ wo hs' hb hc' => ?_
            have h7 : ρ (.tmp 7) = .slice (some ⟨b, off, none⟩) B.length c7 := hs'.old' 7 (by kernel_rfl)
            exact Any.ok_move (Any.post_val hb rfl h7)
          · refine Any.owes_plain rfl fun ρ wo hs' hb hc' => ?_
            have h8 : ρ (.tmp 8) = .int .i64 (k : Int) := hs'.old' 8 (by kernel_rfl)
            exact Any.ok_move (Any.post_val hb rfl h8)
          · refine Any.owes_plain rfl fun ρ wo hs' hb hc' => ?_
            have h22 : ρ (.tmp 22) = .slice (some ⟨b, off, none⟩) B.length c7 := hs'.new' 22 0 (by kernel_rfl)
            have h23 : ρ (.tmp 23) = .int .i64 (k : Int) := hs'.new' 23 1 (by kernel_rfl)
            go_simp
            exact Any.post_val hb rfl rfl
          · refine Any.owes_plain rfl fun ρ wo hs' hb hc' => ?_
            have h24 : ρ (.tmp 24) = .pointer (some ⟨b, off + k * 2, none⟩) := hs'.new' 24 2 (by kernel_rfl)
            go_simp
            exact Any.post_val hb rfl rfl
          · refine Any.owes_plain rfl fun ρ wo hs' hb hc' => ?_
            have h25 : ρ (.tmp 25) = .pointer (some ⟨b, off + k * 2 + 1, none⟩) := hs'.new' 25 3 (by kernel_rfl)
            have c0 := HYC.out wo (HBL.out.trans ((below_undrew hb).mono HBL.out.size))
            go_simp
            exact Any.post_val hb rfl rfl
          · refine Any.owes_plain rfl fun ρ wo hs' hb hc' => ?_
            have h6 : ρ (.tmp 6) = .slice a6 A.length c6 := hs'.old' 6 (by kernel_rfl)
            exact Any.ok_move (Any.post_val hb rfl h6)
          · refine Any.owes_plain rfl fun ρ wo hs' hb hc' => ?_
            have h7 : ρ (.tmp 7) = .slice (some ⟨b, off, none⟩) B.length c7 := hs'.old' 7 (by kernel_rfl)
            exact Any.ok_move (Any.post_val hb rfl h7)
          · refine Any.owes_plain rfl fun ρ wo hs' hb hc' => ?_
            have h8 : ρ (.tmp 8) = .int .i64 (k : Int) := hs'.old' 8 (by kernel_rfl)
            exact Any.ok_move (Any.post_val hb rfl h8)
          · refine Any.owes_plain rfl fun ρ wo hs' hb hc' => ?_
            have h28 : ρ (.tmp 28) = .slice (some ⟨b, off, none⟩) B.length c7 := hs'.new' 28 6 (by kernel_rfl)
            have h29 : ρ (.tmp 29) = .int .i64 (k : Int) := hs'.new' 29 7 (by kernel_rfl)
            go_simp
            exact Any.post_val hb rfl rfl
          · refine Any.owes_plain rfl fun ρ wo hs' hb hc' => ?_
            have h30 : ρ (.tmp 30) = .pointer (some ⟨b, off + k * 2, none⟩) := hs'.new' 30 8 (by kernel_rfl)
            go_simp
            exact Any.post_val hb rfl rfl
          · refine Any.owes_plain rfl fun ρ wo hs' hb hc' => ?_
            have h31 : ρ (.tmp 31) = .pointer (some ⟨b, off + k * 2, none⟩) := hs'.new' 31 9 (by kernel_rfl)
            have c0 := HYN.out wo (HBL.out.trans ((below_undrew hb).mono HBL.out.size))
            go_simp
            exact Any.post_val hb rfl rfl
          · refine Any.owes_plain rfl fun ρ wo hs' hb hc' => ?_
            have h27 : ρ (.tmp 27) = .slice a6 A.length c6 := hs'.new' 27 5 (by kernel_rfl)
            have h32 : ρ (.tmp 32) = .string yn := hs'.new' 32 10 (by kernel_rfl)
            have hf := hs'.func 43
            go_simp
            exact (HH.out wo (HBL.out.trans ((below_undrew hb).mono HBL.out.size))).mono fun e w' ⟨he, hb'⟩ => ⟨_, he, Any.post_vals hb rfl rfl hb'⟩
          · refine Any.owes_plain rfl fun ρ wo hs' hb hc' => ?_
            have h26 : ρ (.tmp 26) = .int .i64 yc := hs'.new' 26 4 (by kernel_rfl)
            have h33 : ρ (.tmp 33) = .int .i64 H := hs'.new' 33 11 (by kernel_rfl)
            go_simp
            exact Any.post_val hb rfl rfl
        intro vals w5 hb hk ha
        have h12 : vals 12 = .bool false := hk 12 (by kernel_rfl)
        have HBL := Lib.hid (HBL.out.trans (hb.mono HBL.out.size))
        clear hk ha hb
        simp only [Any.putAll]
        go_frame
        simp only [Nat.zero_add, Nat.reduceAdd]
        rw [h12]
        clear h12
        go_wp2_with fail
        go_roundw
        case rel => exact ⟨k + 1, by have := HK.out; omega, by go_num, HNX.out, HBL.out⟩
        case measure => have := HK.out; (simp [intOf]) <;> omega
    · have HCAN : Hid (canTake l m) := Lib.hid (HCI.out.2 fun x hx => by
        obtain ⟨j, hj, rfl⟩ := List.getElem_of_mem hx
        exact HLO.out j hj (by omega))
      clear hk
      go_wp2_with fail
      generalize wr = w3 at *
      go_loopw [9, 10, 11] (fun o i _ wr => ∃ k : Nat, k ≤ A.length ∧ i = .int .i64 k ∧ wr.ownsRow w3.heap.size 38 2 o ((A.take k).filterMap (leftF m)).length (ltCells ((A.take k).filterMap (leftF m))) ∧ Below w2.heap.size w2 wr ∧ w3.heap.size ≤ wr.heap.size) (fun _ i _ _ => A.length - (intOf i).toNat)
      case atStart => exact ⟨0, Nat.zero_le _, rfl, own_empty (Nat.le_refl _), HBL.out.trans ((one_below _ _).mono HBL.out.size), by rw [size_al]; omega⟩
      case round =>
        obtain ⟨k, hk, rfl, hown, hbel, hsz⟩ := hrel
        have HOWN := Lib.hid hown
        have HB3 := Lib.hid HBL.out.size
        have HBL := Lib.hid hbel
        have HSZ := Lib.hid hsz
        clear hown hbel hsz
        by_cases hlt : k < A.length
        · obtain ⟨b, off, rfl, -, hb, hc⟩ := HSA.out.at (i := k) (by simpa using hlt)
          have hr := hc k A[k].row (by rw [List.getElem?_map, List.getElem?_eq_getElem hlt]; rfl)
          have HXN := Lib.hid (fun W (hW : Below w2.heap.size w2 W) => (hW.cell (p := ⟨b, off + k * 2, none⟩) hb).trans (hr 0 _ rfl))
          have HXC := Lib.hid (fun W (hW : Below w2.heap.size w2 W) => (hW.cell (p := ⟨b, off + k * 2 + 1, none⟩) hb).trans (hr 1 _ rfl))
          have HH := Lib.hid (fun W (hW : Below w2.heap.size w2 W) => HHM.out A[k].good _ W (HSB.out.below hW (Nat.le_refl _)))
          have HK := Lib.hid hlt
          have tk : ((k : Nat) : Int) < (A.length : Int) := by omega
          have HNX := Lib.hid (left_snoc (m := m) hlt)
          have hp := HPM.out A[k].good
          have hq := HAB.out A[k] (List.getElem_mem hlt)
          have HLN : Hid (((A.take k).filterMap (leftF m)).length ≤ 4000) := Lib.hid (by
            have h1 := List.length_filterMap_le (leftF m) (A.take k)
            have h2 := List.length_take_le k A
            omega)
          generalize (A.take k).filterMap (leftF m) = D at *
          generalize posTot m A[k].good = H at *
          generalize A[k].good = xn at *
          generalize A[k].cnt = xc at *
          clear hb hc hr hlt hk
          go_wp2_with fail
          refine Any.region_lit (fun
            | 0 => Any.val (.slice (some ⟨b, off, none⟩) A.length c6)
            | 1 => Any.val (.int .i64 (k : Int))
            | 2 => Any.val (.pointer (some ⟨b, off + k * 2, none⟩))
            | 3 => Any.val (.pointer (some ⟨b, off + k * 2 + 1, none⟩))
            | 4 => Any.val (.int .i64 xc)
            | 5 => Any.val (.slice a7 B.length c7)
            | 6 => Any.val (.slice (some ⟨b, off, none⟩) A.length c6)
            | 7 => Any.val (.int .i64 (k : Int))
            | 8 => Any.val (.pointer (some ⟨b, off + k * 2, none⟩))
            | 9 => Any.val (.pointer (some ⟨b, off + k * 2, none⟩))
            | 10 => Any.val (.string xn)
            | 11 => Any.val (.int .i64 H)
            | 12 => Any.val (.int .i64 (xc - H))
            | 13 => Any.val (.int .i64 (xc - H))
            | _ => Any.idle) (by kernel_rfl) (by kernel_rfl) (by kernel_rfl) ?_ ?_ ?_
          · intro i _
            match i with
            | 0 => exact Any.lasts_val _
            | 1 => exact Any.lasts_val _
            | 2 => exact Any.lasts_val _
            | 3 => exact Any.lasts_val _
            | 4 => exact Any.lasts_val _
            | 5 => exact Any.lasts_val _
            | 6 => exact Any.lasts_val _
            | 7 => exact Any.lasts_val _
            | 8 => exact Any.lasts_val _
            | 9 => exact Any.lasts_val _
            | 10 => exact Any.lasts_val _
            | 11 => exact Any.lasts_val _
            | 12 => exact Any.lasts_val _
            | 13 => exact Any.lasts_val _
            | n + 14 => exact Any.lasts_idle
          · refine ⟨?_, ?_, ?_, ?_, ?_, ?_, ?_, ?_, ?_, ?_, ?_, ?_, ?_, ?_, trivial⟩
            · refine Any.owes_plain rfl fun ρ wo hs' hb hc' => ?_
              have h6 : ρ (.tmp 6) = .slice (some ⟨b, off, none⟩) A.length c6 := hs'.old' 6 (by kernel_rfl)
              exact Any.ok_move (Any.post_val hb rfl h6)
            · refine Any.owes_plain rfl fun ρ wo hs' hb hc' => ?_
              have h10 : ρ (.tmp 10) = .int .i64 (k : Int) := hs'.old' 10 (by kernel_rfl)
              exact Any.ok_move (Any.post_val hb rfl h10)
            · refine Any.owes_plain rfl fun ρ wo hs' hb hc' => ?_
              have h42 : ρ (.tmp 42) = .slice (some ⟨b, off, none⟩) A.length c6 := hs'.new' 42 0 (by kernel_rfl)
              have h43 : ρ (.tmp 43) = .int .i64 (k : Int) := hs'.new' 43 1 (by kernel_rfl)
              go_simp
              exact Any.post_val hb rfl rfl
            · refine Any.owes_plain rfl fun ρ wo hs' hb hc' => ?_
              have h44 : ρ (.tmp 44) = .pointer (some ⟨b, off + k * 2, none⟩) := hs'.new' 44 2 (by kernel_rfl)
              go_simp
              exact Any.post_val hb rfl rfl
            · refine Any.owes_plain rfl fun ρ wo hs' hb hc' => ?_
              have h45 : ρ (.tmp 45) = .pointer (some ⟨b, off + k * 2 + 1, none⟩) := hs'.new' 45 3 (by kernel_rfl)
              have c0 := HXC.out wo (HBL.out.trans ((below_undrew hb).mono HBL.out.size))
              go_simp
              exact Any.post_val hb rfl rfl
            · refine Any.owes_plain rfl fun ρ wo hs' hb hc' => ?_
              have h7 : ρ (.tmp 7) = .slice a7 B.length c7 := hs'.old' 7 (by kernel_rfl)
              exact Any.ok_move (Any.post_val hb rfl h7)
            · refine Any.owes_plain rfl fun ρ wo hs' hb hc' => ?_
              have h6 : ρ (.tmp 6) = .slice (some ⟨b, off, none⟩) A.length c6 := hs'.old' 6 (by kernel_rfl)
              exact Any.ok_move (Any.post_val hb rfl h6)
            · refine Any.owes_plain rfl fun ρ wo hs' hb hc' => ?_
              have h10 : ρ (.tmp 10) = .int .i64 (k : Int) := hs'.old' 10 (by kernel_rfl)
              exact Any.ok_move (Any.post_val hb rfl h10)
            · refine Any.owes_plain rfl fun ρ wo hs' hb hc' => ?_
              have h48 : ρ (.tmp 48) = .slice (some ⟨b, off, none⟩) A.length c6 := hs'.new' 48 6 (by kernel_rfl)
              have h49 : ρ (.tmp 49) = .int .i64 (k : Int) := hs'.new' 49 7 (by kernel_rfl)
              go_simp
              exact Any.post_val hb rfl rfl
            · refine Any.owes_plain rfl fun ρ wo hs' hb hc' => ?_
              have h50 : ρ (.tmp 50) = .pointer (some ⟨b, off + k * 2, none⟩) := hs'.new' 50 8 (by kernel_rfl)
              go_simp
              exact Any.post_val hb rfl rfl
            · refine Any.owes_plain rfl fun ρ wo hs' hb hc' => ?_
              have h51 : ρ (.tmp 51) = .pointer (some ⟨b, off + k * 2, none⟩) := hs'.new' 51 9 (by kernel_rfl)
              have c0 := HXN.out wo (HBL.out.trans ((below_undrew hb).mono HBL.out.size))
              go_simp
              exact Any.post_val hb rfl rfl
            · refine Any.owes_plain rfl fun ρ wo hs' hb hc' => ?_
              have h47 : ρ (.tmp 47) = .slice a7 B.length c7 := hs'.new' 47 5 (by kernel_rfl)
              have h52 : ρ (.tmp 52) = .string xn := hs'.new' 52 10 (by kernel_rfl)
              have hf := hs'.func 43
              go_simp
              exact (HH.out wo (HBL.out.trans ((below_undrew hb).mono HBL.out.size))).mono fun e w' ⟨he, hb'⟩ => ⟨_, he, Any.post_vals hb rfl rfl hb'⟩
            · refine Any.owes_plain rfl fun ρ wo hs' hb hc' => ?_
              have h46 : ρ (.tmp 46) = .int .i64 xc := hs'.new' 46 4 (by kernel_rfl)
              have h53 : ρ (.tmp 53) = .int .i64 H := hs'.new' 53 11 (by kernel_rfl)
              have e : IntKind.i64.wrap (xc - H) = xc - H := IntWalk.i64_in _ (by omega)
              go_simp
              exact Any.post_val hb rfl rfl
            · refine Any.owes_plain rfl fun ρ wo hs' hb hc' => ?_
              have h54 : ρ (.tmp 54) = .int .i64 (xc - H) := hs'.new' 54 12 (by kernel_rfl)
              exact Any.ok_assign (Any.post_val hb rfl h54)
          intro vals w5 hb hk ha
          have h13 : vals 13 = .int .i64 (xc - H) := hk 13 (by kernel_rfl)
          have HOWN := Lib.hid (ownsRow_below HOWN.out hb)
          have HSZ := Lib.hid (Nat.le_trans HSZ.out hb.size)
          have HBL := Lib.hid (HBL.out.trans (hb.mono HBL.out.size))
          clear hk ha hb
          simp only [Any.putAll]
          go_frame
          simp only [Nat.zero_add, Nat.reduceAdd]
          rw [h13]
          clear h13
          by_cases hz : xc - H = 0
          · have t1 : (xc - H != 0) = false := by simp [hz]
            rw [if_pos hz] at HNX
            clear hz
            go_wp2_with fail
            go_roundw
            case rel => exact ⟨k + 1, by have := HK.out; omega, by go_num, by rw [HNX.out]; exact HOWN.out, HBL.out, HSZ.out⟩
            case measure => have := HK.out; (simp [intOf]) <;> omega
          · have t1 : (xc - H != 0) = true := by simp [hz]
            rw [if_neg hz] at HNX
            have d0 := HXN.out w5 HBL.out
            have HL : Hid (D.length + 1 ≤ maxLen ∧ (D.length + 1) * 24 ≤ 140737488355328 ∧ w3.heap.size ≤ w5.heap.size) := Lib.hid (by have := HLN.out; have := HSZ.out; simp only [maxLen]; omega)
            clear hz
            go_wp2_with (first
              | (((with_reducible refine Any.wpl_push ?_ ?_ ?_ Tryd.underlying25 HI.out.1 HI.out.2.1 HI.out.2.2.1 HI.out.2.2.2 ?_ (by decide) ?_ (lt_one xn (xc - H)) (HOWN.out) HL.out.1 HL.out.2.1 HL.out.2.2 ?_); rfl; rfl; rfl; rfl; rfl; intro v6 w6 hown6 hgrow6 hwho6); have HO6 := Lib.hid hown6; have HG6 := Lib.hid hgrow6; clear hown6 hgrow6 hwho6)
              | fail)
            go_roundw
            case rel => exact ⟨k + 1, by have := HK.out; omega, by go_num, by
              rw [HNX.out, List.length_append]
              have := HO6.out
              simpa [ltCells, Lt.row] using this, HBL.out.grown HG6.out HBL.out.size (fun j hj => Nat.le_trans HB3.out (HOWN.out.lt j hj).1), Nat.le_trans HSZ.out HG6.out.size⟩
            case measure => have := HK.out; (simp [intOf]) <;> omega
        · have HE : Hid (A.take k = A) := Lib.hid (List.take_of_length_le (by omega))
          clear hk
          go_wp2_with fail
          go_ret2
          have ho := HOWN.out
          rw [HE.out, ← HLI.out] at ho
          exact .inl ⟨HCAN.out, _, rfl, ownsRow_base ho (Nat.le_trans HB.out.size HB3.out), HB.out.trans (HBL.out.mono HB.out.size)⟩
end Go.Proofs.YtogkggmaibeboaaDoor.Sc
