/- The reference's things; texts compared. -/
import Derived.Test.YtnlfhncbnfmccaaThings26
import Derived.Test.YtnlfhncbnfmccaaRefRank26
import Derived.BigQuiet
namespace Go.Proofs.Ytnlfhncbnfmccaa.Sc
open Go Go.RowKit Go.ChangeShapes Go.WideShapes Go.ChangeAt
set_option maxRecDepth 100000

theorem less_bt (a b : ByteArray) : Op.bytesLess a.toList b.toList = decide (bt a < bt b) := by rw [bytesLess_eq, ByteArray.toList_eq, ByteArray.toList_eq]; rfl
theorem src_strs {w : World} {v : Value} {l : List ByteArray} (h : Sl w 1 v (l.map stRow)) : Src w 1 v l.length (strCells l) := by
  have := h.src (st_rows l) (by decide)
  rw [strCells_flat]
  simpa using this
theorem strs_one (l : List ByteArray) : ∀ u ∈ strCells l, u.oneCell' = true := by
  intro u hu
  obtain ⟨s, _, rfl⟩ := List.mem_map.1 hu
  rfl
theorem own_insS {w : World} {B : Nat} {e : TypeId} {v : Value} {D : List ByteArray} {x : ByteArray} {k : Nat} (hk : k ≤ D.length) (h : w.ownsRow B e 1 v (k + 1 + (D.length - k)) (strCells (D.take k) ++ [.string x] ++ strCells (D.drop k))) :
    w.ownsRow B e 1 v (D.take k ++ [x] ++ D.drop k).length (strCells (D.take k ++ [x] ++ D.drop k)) := by
  have e1 : (D.take k ++ [x] ++ D.drop k).length = k + 1 + (D.length - k) := by
    simp [Nat.min_eq_left hk]
    omega
  rw [e1]
  simpa [strCells] using h
theorem tIns_eq : ∀ {D : List ByteArray} {s : ByteArray} {k : Nat} (hk : k < D.length) (_ : ∀ j (h : j < D.length), j < k → bt D[j] < bt s) (_ : D[k] = s), tIns D s = D
  | y :: r, s, 0, _, _, he => by
    have he' : y = s := he
    rw [tIns, if_neg (by rw [he']; exact List.lt_irrefl _), if_pos he']
  | y :: r, s, k + 1, hk, hlt, he => by
    have h0 : bt y < bt s := hlt 0 (by simp) (by omega)
    have ih := tIns_eq (D := r) (s := s) (k := k) (by simpa using hk) (fun j h hj => hlt (j + 1) (by simpa using h) (by omega)) he
    rw [tIns, if_pos h0, ih]
theorem tIns_new : ∀ {D : List ByteArray} {s : ByteArray} {k : Nat} (_ : k ≤ D.length) (_ : ∀ j (h : j < D.length), j < k → bt D[j] < bt s) (_ : ∀ h : k < D.length, ¬ bt D[k] < bt s ∧ ¬ D[k] = s), tIns D s = D.take k ++ [s] ++ D.drop k
  | [], s, k, hk, _, _ => by
    obtain rfl : k = 0 := by simpa using hk
    rfl
  | y :: r, s, 0, _, _, he => by
    obtain ⟨h1, h2⟩ := he (by simp)
    have h1' : ¬ bt y < bt s := h1
    have h2' : ¬ y = s := h2
    rw [tIns, if_neg h1', if_neg h2']
    rfl
  | y :: r, s, k + 1, hk, hlt, he => by
    have h0 : bt y < bt s := hlt 0 (by simp) (by omega)
    have ih := tIns_new (D := r) (s := s) (k := k) (by simpa using hk) (fun j h hj => hlt (j + 1) (by simpa using h) (by omega)) (fun h => he (by simpa using h))
    rw [tIns, if_pos h0, ih]
    rfl
theorem thR_next {l : List Pg} {n : Nat} (h : n < l.length) : thR (l.take (n + 1)) = tIns (thR (l.take n)) l[n].thing := by
  rw [List.take_succ_eq_append_getElem h, thR, List.foldl_append]
  rfl
set_option maxHeartbeats 16000000 in
theorem refThings_any (l : List Pg) (vl : Value) (w : World) (hs : Sl w 6 vl (l.map Pg.row)) (hl : l.length ≤ 4000) :
    Calls Try.prog 35 #[vl] w (RetRow w 9 1 (thR l).length (strCells (thR l))) := by
  obtain ⟨a, c, rfl⟩ : ∃ a c, vl = .slice a l.length c := by simpa using hs.shape
  have HS := Lib.hid hs
  have HLN := Lib.hid hl
  obtain ⟨i0, hi, hz, hsz, hby⟩ := info_parts infoStr
  have HI := Lib.hid (And.intro hi (And.intro hz (And.intro hsz hby)))
  clear hi hz hsz hby hs
  go_enter Try.func35, Try.ntmps35
  go_wp2_with fail
  go_loopw [3, 4, 5, 6] (fun o i _ _ wr => ∃ n : Nat, n ≤ l.length ∧ i = .int .i64 n ∧ wr.ownsRow w.heap.size 9 1 o (thR (l.take n)).length (strCells (thR (l.take n))) ∧ Below w.heap.size w wr) (fun _ i _ _ _ => l.length - (intOf i).toNat)
  case atStart => exact ⟨0, Nat.zero_le _, rfl, own_empty (Nat.le_refl _), one_below _ _⟩
  case round =>
    obtain ⟨n, hn, rfl, hown, hbel⟩ := hrel
    have HOWN := Lib.hid hown
    have HBEL := Lib.hid hbel
    by_cases hlt : n < l.length
    · obtain ⟨b, off, rfl, hb, hp⟩ := pg_at HS.out hlt
      have HX0 : Hid (∀ W, Below w.heap.size w W → W.cell? ⟨b, off + n * 6, none⟩ = some (.string l[n].thing)) := Lib.hid (fun W hW => (hp.below hb hW).1)
      have HNX := Lib.hid (thR_next hlt)
      have HLL : Hid ((thR (l.take n)).length ≤ 4000) := Lib.hid (by
        have h1 := thR_len (l.take n)
        rw [List.length_take] at h1
        have := HLN.out
        omega)
      have HNL := Lib.hid hlt
      have tn : ((n : Nat) : Int) < (l.length : Int) := by omega
      obtain ⟨ao, co, rfl⟩ : ∃ a c, u3 = .slice a (thR (l.take n)).length c := by simpa using (own_strs HOWN.out rfl).shape
      generalize l[n].thing = xt at *
      generalize thR (l.take n) = D at *
      clear hb hp hown hbel hn
      go_wp2_with fail
      generalize wr = w5 at *
      have HX := Lib.hid (fun W (hW : Below w5.heap.size w5 W) => HX0.out W (HBEL.out.trans (hW.mono HBEL.out.size)))
      go_loopw [5] (fun i wr => ∃ k : Nat, k ≤ D.length ∧ i = .int .i64 k ∧ (∀ j (h : j < D.length), j < k → bt D[j] < bt xt) ∧ Below w5.heap.size w5 wr) (fun i _ => D.length - (intOf i).toNat)
      case atStart => exact ⟨0, Nat.zero_le _, rfl, fun _ _ h => absurd h (by omega), Below.refl _ _⟩
      case round =>
        obtain ⟨k, hk, rfl, hlo, hin⟩ := hrel
        have HLO := Lib.hid hlo
        have HBL := Lib.hid hin
        have HKL := Lib.hid hk
        clear hlo hin
        by_cases hlk : k < D.length
        · have tk : ((k : Nat) : Int) < (D.length : Int) := by omega
          have hkb : (k : Int) ≤ 4000 := by have := HLL.out; omega
          have HKL := Lib.hid hlk
          obtain ⟨g, co', cur, hv3, hh, hg⟩ := own_pos HOWN.out (by omega)
          obtain ⟨rfl, rfl⟩ : ao = some ⟨g, 0, none⟩ ∧ co = co' := by
            simp only [Value.slice.injEq] at hv3
            exact ⟨hv3.1, hv3.2.2⟩
          have HY : Hid (∀ W, Below w5.heap.size w5 W → W.cell? ⟨g, k, none⟩ = some (.string D[k])) := Lib.hid fun W hW => by
            obtain ⟨b1, o1, he, -, -, hc⟩ := ((own_strs HOWN.out rfl).below hW (Nat.le_refl _)).at (i := k) (by simpa using hlk)
            simp only [Option.some.injEq, Addr.mk.injEq, and_true] at he
            obtain ⟨rfl, rfl⟩ := he
            have c0 := hc k (stRow D[k]) (by rw [List.getElem?_map, List.getElem?_eq_getElem hlk]; rfl) 0 _ rfl
            rw [Nat.zero_add, Nat.mul_one] at c0
            exact c0
          have HJE := Lib.hid (fun (h : D[k] = xt) => tIns_eq hlk HLO.out h)
          have HMO := Lib.hid (fun (hs : bt D[k] < bt xt) j (h : j < D.length) (hj : j < k + 1) => (by
            rcases Nat.lt_or_ge j k with h1 | h1
            · exact HLO.out j h h1
            · obtain rfl : j = k := by omega
              exact hs : bt D[j] < bt xt))
          have HJI := Lib.hid (fun (h1 : ¬ bt D[k] < bt xt) (h2 : ¬ D[k] = xt) => tIns_new hk HLO.out fun _ => ⟨h1, h2⟩)
          clear hv3 hh hg
          generalize D[k] = yn at *
          by_cases hs : bt yn < bt xt
          · have t1 : Op.bytesLess yn.toList xt.toList = true := by rw [less_bt, decide_eq_true hs]
            have HMO := Lib.hid (HMO.out hs)
            clear hs HJE HJI hk hlk
            go_wp2_with fail
            refine Any.region_lit (fun
              | 0 => Any.val (.int .i64 (k : Int))
              | 1 => Any.val (.slice (some ⟨g, 0, none⟩) D.length co)
              | 2 => Any.val (.int .i64 (D.length : Int))
              | 3 => Any.val (.bool true)
              | 4 => Any.val (.bool true)
              | 5 => Any.val (.slice (some ⟨g, 0, none⟩) D.length co)
              | 6 => Any.val (.int .i64 (k : Int))
              | 7 => Any.val (.pointer (some ⟨g, k, none⟩))
              | 8 => Any.val (.string yn)
              | 9 => Any.val (.slice (some ⟨b, off, none⟩) l.length c)
              | 10 => Any.val (.int .i64 (n : Int))
              | 11 => Any.val (.pointer (some ⟨b, off + n * 6, none⟩))
              | 12 => Any.val (.pointer (some ⟨b, off + n * 6, none⟩))
              | 13 => Any.val (.string xt)
              | 14 => Any.val (.bool true)
              | 15 => Any.val (.bool true)
              | _ => Any.idle) (by kernel_rfl) (by kernel_rfl) (by kernel_rfl) ?_ ?_ ?_
            · intro i _
              match i with
              | 0 => exact Any.lasts_val _
              | 1 => exact Any.lasts_val _
              | 2 => exact Any.lasts_val _
              | 3 => exact Any.lasts_val _
              | 4 => exact Any.lasts_val _
              | 5 => exact Any.lasts_val _
              | 6 => exact Any.lasts_val _
              | 7 => exact Any.lasts_val _
              | 8 => exact Any.lasts_val _
              | 9 => exact Any.lasts_val _
              | 10 => exact Any.lasts_val _
              | 11 => exact Any.lasts_val _
              | 12 => exact Any.lasts_val _
              | 13 => exact Any.lasts_val _
              | 14 => exact Any.lasts_val _
              | 15 => exact Any.lasts_val _
              | n + 16 => exact Any.lasts_idle
            · refine ⟨?_, ?_, ?_, ?_, ?_, ?_, ?_, ?_, ?_, ?_, ?_, ?_, ?_, ?_, ?_, ?_, trivial⟩
              · refine Any.owes_plain rfl fun ρ wo hs' hb hc' => ?_
                have h5 : ρ (.tmp 5) = .int .i64 (k : Int) := hs'.old' 5 (by kernel_rfl)
                exact Any.ok_move (Any.post_val hb rfl h5)
              · refine Any.owes_plain rfl fun ρ wo hs' hb hc' => ?_
                have h3 : ρ (.tmp 3) = .slice (some ⟨g, 0, none⟩) D.length co := hs'.old' 3 (by kernel_rfl)
                exact Any.ok_move (Any.post_val hb rfl h3)
              · refine Any.owes_plain rfl fun ρ wo hs' hb hc' => ?_
                have h15 : ρ (.tmp 15) = .slice (some ⟨g, 0, none⟩) D.length co := hs'.new' 15 1 (by kernel_rfl)
                go_simp
                exact Any.post_val hb rfl rfl
              · refine Any.owes_plain rfl fun ρ wo hs' hb hc' => ?_
                have h14 : ρ (.tmp 14) = .int .i64 (k : Int) := hs'.new' 14 0 (by kernel_rfl)
                have h16 : ρ (.tmp 16) = .int .i64 (D.length : Int) := hs'.new' 16 2 (by kernel_rfl)
                go_simp
                exact Any.post_val hb rfl rfl
              · refine Any.owes_plain rfl fun ρ wo hs' hb hc' => ?_
                have h17 : ρ (.tmp 17) = .bool true := hs'.new' 17 3 (by kernel_rfl)
                exact Any.ok_move (Any.post_val hb rfl h17)
              · refine Any.owes_on rfl rfl (by kernel_rfl) rfl fun ρ wo hs' hb hc' => ?_
                have h3 : ρ (.tmp 3) = .slice (some ⟨g, 0, none⟩) D.length co := hs'.old' 3 (by kernel_rfl)
                exact Any.ok_move (Any.post_val hb rfl h3)
              · refine Any.owes_on rfl rfl (by kernel_rfl) rfl fun ρ wo hs' hb hc' => ?_
                have h5 : ρ (.tmp 5) = .int .i64 (k : Int) := hs'.old' 5 (by kernel_rfl)
                exact Any.ok_move (Any.post_val hb rfl h5)
              · refine Any.owes_on rfl rfl (by kernel_rfl) rfl fun ρ wo hs' hb hc' => ?_
                have h19 : ρ (.tmp 19) = .slice (some ⟨g, 0, none⟩) D.length co := hs'.new' 19 5 (by kernel_rfl)
                have h20 : ρ (.tmp 20) = .int .i64 (k : Int) := hs'.new' 20 6 (by kernel_rfl)
                go_simp
                exact Any.post_val hb rfl rfl
              · refine Any.owes_on rfl rfl (by kernel_rfl) rfl fun ρ wo hs' hb hc' => ?_
                have h21 : ρ (.tmp 21) = .pointer (some ⟨g, k, none⟩) := hs'.new' 21 7 (by kernel_rfl)
                have c0 := HY.out wo (HBL.out.trans ((below_undrew hb).mono HBL.out.size))
                go_simp
                exact Any.post_val hb rfl rfl
              · refine Any.owes_on rfl rfl (by kernel_rfl) rfl fun ρ wo hs' hb hc' => ?_
                have h0 : ρ (.tmp 0) = .slice (some ⟨b, off, none⟩) l.length c := hs'.old' 0 (by kernel_rfl)
                exact Any.ok_move (Any.post_val hb rfl h0)
              · refine Any.owes_on rfl rfl (by kernel_rfl) rfl fun ρ wo hs' hb hc' => ?_
                have h4 : ρ (.tmp 4) = .int .i64 (n : Int) := hs'.old' 4 (by kernel_rfl)
                exact Any.ok_move (Any.post_val hb rfl h4)
              · refine Any.owes_on rfl rfl (by kernel_rfl) rfl fun ρ wo hs' hb hc' => ?_
                have h23 : ρ (.tmp 23) = .slice (some ⟨b, off, none⟩) l.length c := hs'.new' 23 9 (by kernel_rfl)
                have h24 : ρ (.tmp 24) = .int .i64 (n : Int) := hs'.new' 24 10 (by kernel_rfl)
                go_simp
                exact Any.post_val hb rfl rfl
              · refine Any.owes_on rfl rfl (by kernel_rfl) rfl fun ρ wo hs' hb hc' => ?_
                have h25 : ρ (.tmp 25) = .pointer (some ⟨b, off + n * 6, none⟩) := hs'.new' 25 11 (by kernel_rfl)
                go_simp
                exact Any.post_val hb rfl rfl
              · refine Any.owes_on rfl rfl (by kernel_rfl) rfl fun ρ wo hs' hb hc' => ?_
                have h26 : ρ (.tmp 26) = .pointer (some ⟨b, off + n * 6, none⟩) := hs'.new' 26 12 (by kernel_rfl)
                have c0 := HX.out wo (HBL.out.trans ((below_undrew hb).mono HBL.out.size))
                go_simp
                exact Any.post_val hb rfl rfl
              · refine Any.owes_on rfl rfl (by kernel_rfl) rfl fun ρ wo hs' hb hc' => ?_
                have h22 : ρ (.tmp 22) = .string yn := hs'.new' 22 8 (by kernel_rfl)
                have h27 : ρ (.tmp 27) = .string xt := hs'.new' 27 13 (by kernel_rfl)
                go_simp
                exact Any.post_val hb rfl rfl
              · refine Any.owes_plain rfl fun ρ wo hs' hb hc' => ?_
                have h18 : ρ (.tmp 18) = .bool true := hs'.new' 18 4 (by kernel_rfl)
                have h28 : ρ (.tmp 28) = .bool true := hs'.new' 28 14 (by kernel_rfl)
                go_simp
                exact Any.post_val hb rfl rfl
            intro vals w7 hb hk ha
            have h15 : vals 15 = .bool true := hk 15 (by kernel_rfl)
            have HBL := Lib.hid (HBL.out.trans (hb.mono HBL.out.size))
            clear hk ha hb
            simp only [Any.putAll]
            go_frame
            simp only [Nat.zero_add, Nat.reduceAdd]
            rw [h15]
            clear h15
            go_wp2_with fail
            go_roundw
            case rel => exact ⟨k + 1, by have := HKL.out; omega, by go_num, HMO.out, HBL.out⟩
            case measure => have := HKL.out; (simp [intOf]) <;> omega
          · have t1 : Op.bytesLess yn.toList xt.toList = false := by rw [less_bt, decide_eq_false hs]
            have HJI := Lib.hid (HJI.out hs)
            clear hs HMO hk hlk
            go_wp2_with fail
            refine Any.region_lit (fun
              | 0 => Any.val (.int .i64 (k : Int))
              | 1 => Any.val (.slice (some ⟨g, 0, none⟩) D.length co)
              | 2 => Any.val (.int .i64 (D.length : Int))
              | 3 => Any.val (.bool true)
              | 4 => Any.val (.bool true)
              | 5 => Any.val (.slice (some ⟨g, 0, none⟩) D.length co)
              | 6 => Any.val (.int .i64 (k : Int))
              | 7 => Any.val (.pointer (some ⟨g, k, none⟩))
              | 8 => Any.val (.string yn)
              | 9 => Any.val (.slice (some ⟨b, off, none⟩) l.length c)
              | 10 => Any.val (.int .i64 (n : Int))
              | 11 => Any.val (.pointer (some ⟨b, off + n * 6, none⟩))
              | 12 => Any.val (.pointer (some ⟨b, off + n * 6, none⟩))
              | 13 => Any.val (.string xt)
              | 14 => Any.val (.bool false)
              | 15 => Any.val (.bool false)
              | _ => Any.idle) (by kernel_rfl) (by kernel_rfl) (by kernel_rfl) ?_ ?_ ?_
            · intro i _
              match i with
              | 0 => exact Any.lasts_val _
              | 1 => exact Any.lasts_val _
              | 2 => exact Any.lasts_val _
              | 3 => exact Any.lasts_val _
              | 4 => exact Any.lasts_val _
              | 5 => exact Any.lasts_val _
              | 6 => exact Any.lasts_val _
              | 7 => exact Any.lasts_val _
              | 8 => exact Any.lasts_val _
              | 9 => exact Any.lasts_val _
              | 10 => exact Any.lasts_val _
              | 11 => exact Any.lasts_val _
              | 12 => exact Any.lasts_val _
              | 13 => exact Any.lasts_val _
              | 14 => exact Any.lasts_val _
              | 15 => exact Any.lasts_val _
              | n + 16 => exact Any.lasts_idle
            · refine ⟨?_, ?_, ?_, ?_, ?_, ?_, ?_, ?_, ?_, ?_, ?_, ?_, ?_, ?_, ?_, ?_, trivial⟩
              · refine Any.owes_plain rfl fun ρ wo hs' hb hc' => ?_
                have h5 : ρ (.tmp 5) = .int .i64 (k : Int) := hs'.old' 5 (by kernel_rfl)
                exact Any.ok_move (Any.post_val hb rfl h5)
              · refine Any.owes_plain rfl fun ρ wo hs' hb hc' => ?_
                have h3 : ρ (.tmp 3) = .slice (some ⟨g, 0, none⟩) D.length co := hs'.old' 3 (by kernel_rfl)
                exact Any.ok_move (Any.post_val hb rfl h3)
              · refine Any.owes_plain rfl fun ρ wo hs' hb hc' => ?_
                have h15 : ρ (.tmp 15) = .slice (some ⟨g, 0, none⟩) D.length co := hs'.new' 15 1 (by kernel_rfl)
                go_simp
                exact Any.post_val hb rfl rfl
              · refine Any.owes_plain rfl fun ρ wo hs' hb hc' => ?_
                have h14 : ρ (.tmp 14) = .int .i64 (k : Int) := hs'.new' 14 0 (by kernel_rfl)
                have h16 : ρ (.tmp 16) = .int .i64 (D.length : Int) := hs'.new' 16 2 (by kernel_rfl)
                go_simp
                exact Any.post_val hb rfl rfl
              · refine Any.owes_plain rfl fun ρ wo hs' hb hc' => ?_
                have h17 : ρ (.tmp 17) = .bool true := hs'.new' 17 3 (by kernel_rfl)
                exact Any.ok_move (Any.post_val hb rfl h17)
              · refine Any.owes_on rfl rfl (by kernel_rfl) rfl fun ρ wo hs' hb hc' => ?_
                have h3 : ρ (.tmp 3) = .slice (some ⟨g, 0, none⟩) D.length co := hs'.old' 3 (by kernel_rfl)
                exact Any.ok_move (Any.post_val hb rfl h3)
              · refine Any.owes_on rfl rfl (by kernel_rfl) rfl fun ρ wo hs' hb hc' => ?_
                have h5 : ρ (.tmp 5) = .int .i64 (k : Int) := hs'.old' 5 (by kernel_rfl)
                exact Any.ok_move (Any.post_val hb rfl h5)
              · refine Any.owes_on rfl rfl (by kernel_rfl) rfl fun ρ wo hs' hb hc' => ?_
                have h19 : ρ (.tmp 19) = .slice (some ⟨g, 0, none⟩) D.length co := hs'.new' 19 5 (by kernel_rfl)
                have h20 : ρ (.tmp 20) = .int .i64 (k : Int) := hs'.new' 20 6 (by kernel_rfl)
                go_simp
                exact Any.post_val hb rfl rfl
              · refine Any.owes_on rfl rfl (by kernel_rfl) rfl fun ρ wo hs' hb hc' => ?_
                have h21 : ρ (.tmp 21) = .pointer (some ⟨g, k, none⟩) := hs'.new' 21 7 (by kernel_rfl)
                have c0 := HY.out wo (HBL.out.trans ((below_undrew hb).mono HBL.out.size))
                go_simp
                exact Any.post_val hb rfl rfl
              · refine Any.owes_on rfl rfl (by kernel_rfl) rfl fun ρ wo hs' hb hc' => ?_
                have h0 : ρ (.tmp 0) = .slice (some ⟨b, off, none⟩) l.length c := hs'.old' 0 (by kernel_rfl)
                exact Any.ok_move (Any.post_val hb rfl h0)
              · refine Any.owes_on rfl rfl (by kernel_rfl) rfl fun ρ wo hs' hb hc' => ?_
                have h4 : ρ (.tmp 4) = .int .i64 (n : Int) := hs'.old' 4 (by kernel_rfl)
                exact Any.ok_move (Any.post_val hb rfl h4)
              · refine Any.owes_on rfl rfl (by kernel_rfl) rfl fun ρ wo hs' hb hc' => ?_
                have h23 : ρ (.tmp 23) = .slice (some ⟨b, off, none⟩) l.length c := hs'.new' 23 9 (by kernel_rfl)
                have h24 : ρ (.tmp 24) = .int .i64 (n : Int) := hs'.new' 24 10 (by kernel_rfl)
                go_simp
                exact Any.post_val hb rfl rfl
              · refine Any.owes_on rfl rfl (by kernel_rfl) rfl fun ρ wo hs' hb hc' => ?_
                have h25 : ρ (.tmp 25) = .pointer (some ⟨b, off + n * 6, none⟩) := hs'.new' 25 11 (by kernel_rfl)
                go_simp
                exact Any.post_val hb rfl rfl
              · refine Any.owes_on rfl rfl (by kernel_rfl) rfl fun ρ wo hs' hb hc' => ?_
                have h26 : ρ (.tmp 26) = .pointer (some ⟨b, off + n * 6, none⟩) := hs'.new' 26 12 (by kernel_rfl)
                have c0 := HX.out wo (HBL.out.trans ((below_undrew hb).mono HBL.out.size))
                go_simp
                exact Any.post_val hb rfl rfl
              · refine Any.owes_on rfl rfl (by kernel_rfl) rfl fun ρ wo hs' hb hc' => ?_
                have h22 : ρ (.tmp 22) = .string yn := hs'.new' 22 8 (by kernel_rfl)
                have h27 : ρ (.tmp 27) = .string xt := hs'.new' 27 13 (by kernel_rfl)
                go_simp
                exact Any.post_val hb rfl rfl
              · refine Any.owes_plain rfl fun ρ wo hs' hb hc' => ?_
                have h18 : ρ (.tmp 18) = .bool true := hs'.new' 18 4 (by kernel_rfl)
                have h28 : ρ (.tmp 28) = .bool false := hs'.new' 28 14 (by kernel_rfl)
                go_simp
                exact Any.post_val hb rfl rfl
            intro vals w7 hb hk ha
            have h15 : vals 15 = .bool false := hk 15 (by kernel_rfl)
            have HBL := Lib.hid (HBL.out.trans (hb.mono HBL.out.size))
            clear hk ha hb
            simp only [Any.putAll]
            go_frame
            simp only [Nat.zero_add, Nat.reduceAdd]
            rw [h15]
            clear h15
            go_wp2_with fail
            by_cases he : yn = xt
            · have t2 : (yn.toList == xt.toList) = true := by rw [str_beq, decide_eq_true he]
              have HJE := Lib.hid (HJE.out he)
              clear he HJI
              refine Any.region_lit (fun
                | 0 => Any.val (.int .i64 (k : Int))
                | 1 => Any.val (.slice (some ⟨g, 0, none⟩) D.length co)
                | 2 => Any.val (.int .i64 (D.length : Int))
                | 3 => Any.val (.bool true)
                | 4 => Any.val (.bool true)
                | 5 => Any.val (.slice (some ⟨g, 0, none⟩) D.length co)
                | 6 => Any.val (.int .i64 (k : Int))
                | 7 => Any.val (.pointer (some ⟨g, k, none⟩))
                | 8 => Any.val (.string yn)
                | 9 => Any.val (.slice (some ⟨b, off, none⟩) l.length c)
                | 10 => Any.val (.int .i64 (n : Int))
                | 11 => Any.val (.pointer (some ⟨b, off + n * 6, none⟩))
                | 12 => Any.val (.pointer (some ⟨b, off + n * 6, none⟩))
                | 13 => Any.val (.string xt)
                | 14 => Any.val (.bool true)
                | 15 => Any.val (.bool true)
                | _ => Any.idle) (by kernel_rfl) (by kernel_rfl) (by kernel_rfl) ?_ ?_ ?_
              · intro i _
                match i with
                | 0 => exact Any.lasts_val _
                | 1 => exact Any.lasts_val _
                | 2 => exact Any.lasts_val _
                | 3 => exact Any.lasts_val _
                | 4 => exact Any.lasts_val _
                | 5 => exact Any.lasts_val _
                | 6 => exact Any.lasts_val _
                | 7 => exact Any.lasts_val _
                | 8 => exact Any.lasts_val _
                | 9 => exact Any.lasts_val _
                | 10 => exact Any.lasts_val _
                | 11 => exact Any.lasts_val _
                | 12 => exact Any.lasts_val _
                | 13 => exact Any.lasts_val _
                | 14 => exact Any.lasts_val _
                | 15 => exact Any.lasts_val _
                | n + 16 => exact Any.lasts_idle
              · refine ⟨?_, ?_, ?_, ?_, ?_, ?_, ?_, ?_, ?_, ?_, ?_, ?_, ?_, ?_, ?_, ?_, trivial⟩
                · refine Any.owes_plain rfl fun ρ wo hs' hb hc' => ?_
                  have h5 : ρ (.tmp 5) = .int .i64 (k : Int) := hs'.old' 5 (by kernel_rfl)
                  exact Any.ok_move (Any.post_val hb rfl h5)
                · refine Any.owes_plain rfl fun ρ wo hs' hb hc' => ?_
                  have h3 : ρ (.tmp 3) = .slice (some ⟨g, 0, none⟩) D.length co := hs'.old' 3 (by kernel_rfl)
                  exact Any.ok_move (Any.post_val hb rfl h3)
                · refine Any.owes_plain rfl fun ρ wo hs' hb hc' => ?_
                  have h33 : ρ (.tmp 33) = .slice (some ⟨g, 0, none⟩) D.length co := hs'.new' 33 1 (by kernel_rfl)
                  go_simp
                  exact Any.post_val hb rfl rfl
                · refine Any.owes_plain rfl fun ρ wo hs' hb hc' => ?_
                  have h32 : ρ (.tmp 32) = .int .i64 (k : Int) := hs'.new' 32 0 (by kernel_rfl)
                  have h34 : ρ (.tmp 34) = .int .i64 (D.length : Int) := hs'.new' 34 2 (by kernel_rfl)
                  go_simp
                  exact Any.post_val hb rfl rfl
                · refine Any.owes_plain rfl fun ρ wo hs' hb hc' => ?_
                  have h35 : ρ (.tmp 35) = .bool true := hs'.new' 35 3 (by kernel_rfl)
                  exact Any.ok_move (Any.post_val hb rfl h35)
                · refine Any.owes_on rfl rfl (by kernel_rfl) rfl fun ρ wo hs' hb hc' => ?_
                  have h3 : ρ (.tmp 3) = .slice (some ⟨g, 0, none⟩) D.length co := hs'.old' 3 (by kernel_rfl)
                  exact Any.ok_move (Any.post_val hb rfl h3)
                · refine Any.owes_on rfl rfl (by kernel_rfl) rfl fun ρ wo hs' hb hc' => ?_
                  have h5 : ρ (.tmp 5) = .int .i64 (k : Int) := hs'.old' 5 (by kernel_rfl)
                  exact Any.ok_move (Any.post_val hb rfl h5)
                · refine Any.owes_on rfl rfl (by kernel_rfl) rfl fun ρ wo hs' hb hc' => ?_
                  have h37 : ρ (.tmp 37) = .slice (some ⟨g, 0, none⟩) D.length co := hs'.new' 37 5 (by kernel_rfl)
                  have h38 : ρ (.tmp 38) = .int .i64 (k : Int) := hs'.new' 38 6 (by kernel_rfl)
                  go_simp
                  exact Any.post_val hb rfl rfl
                · refine Any.owes_on rfl rfl (by kernel_rfl) rfl fun ρ wo hs' hb hc' => ?_
                  have h39 : ρ (.tmp 39) = .pointer (some ⟨g, k, none⟩) := hs'.new' 39 7 (by kernel_rfl)
                  have c0 := HY.out wo (HBL.out.trans ((below_undrew hb).mono HBL.out.size))
                  go_simp
                  exact Any.post_val hb rfl rfl
                · refine Any.owes_on rfl rfl (by kernel_rfl) rfl fun ρ wo hs' hb hc' => ?_
                  have h0 : ρ (.tmp 0) = .slice (some ⟨b, off, none⟩) l.length c := hs'.old' 0 (by kernel_rfl)
                  exact Any.ok_move (Any.post_val hb rfl h0)
                · refine Any.owes_on rfl rfl (by kernel_rfl) rfl fun ρ wo hs' hb hc' => ?_
                  have h4 : ρ (.tmp 4) = .int .i64 (n : Int) := hs'.old' 4 (by kernel_rfl)
                  exact Any.ok_move (Any.post_val hb rfl h4)
                · refine Any.owes_on rfl rfl (by kernel_rfl) rfl fun ρ wo hs' hb hc' => ?_
                  have h41 : ρ (.tmp 41) = .slice (some ⟨b, off, none⟩) l.length c := hs'.new' 41 9 (by kernel_rfl)
                  have h42 : ρ (.tmp 42) = .int .i64 (n : Int) := hs'.new' 42 10 (by kernel_rfl)
                  go_simp
                  exact Any.post_val hb rfl rfl
                · refine Any.owes_on rfl rfl (by kernel_rfl) rfl fun ρ wo hs' hb hc' => ?_
                  have h43 : ρ (.tmp 43) = .pointer (some ⟨b, off + n * 6, none⟩) := hs'.new' 43 11 (by kernel_rfl)
                  go_simp
                  exact Any.post_val hb rfl rfl
                · refine Any.owes_on rfl rfl (by kernel_rfl) rfl fun ρ wo hs' hb hc' => ?_
                  have h44 : ρ (.tmp 44) = .pointer (some ⟨b, off + n * 6, none⟩) := hs'.new' 44 12 (by kernel_rfl)
                  have c0 := HX.out wo (HBL.out.trans ((below_undrew hb).mono HBL.out.size))
                  go_simp
                  exact Any.post_val hb rfl rfl
                · refine Any.owes_on rfl rfl (by kernel_rfl) rfl fun ρ wo hs' hb hc' => ?_
                  have h40 : ρ (.tmp 40) = .string yn := hs'.new' 40 8 (by kernel_rfl)
                  have h45 : ρ (.tmp 45) = .string xt := hs'.new' 45 13 (by kernel_rfl)
                  go_simp
                  exact Any.post_val hb rfl rfl
                · refine Any.owes_plain rfl fun ρ wo hs' hb hc' => ?_
                  have h36 : ρ (.tmp 36) = .bool true := hs'.new' 36 4 (by kernel_rfl)
                  have h46 : ρ (.tmp 46) = .bool true := hs'.new' 46 14 (by kernel_rfl)
                  go_simp
                  exact Any.post_val hb rfl rfl
              intro vals w8 hb hk ha
              have h15 : vals 15 = .bool true := hk 15 (by kernel_rfl)
              have HBL := Lib.hid (HBL.out.trans (hb.mono HBL.out.size))
              clear hk ha hb
              simp only [Any.putAll]
              go_frame
              simp only [Nat.zero_add, Nat.reduceAdd]
              rw [h15]
              clear h15
              go_wp2_with fail
              go_roundw
              case rel => exact ⟨n + 1, by have := HNL.out; omega, by go_num, by rw [HNX.out, HJE.out]; exact ownsRow_below HOWN.out HBL.out, HBEL.out.trans (HBL.out.mono HBEL.out.size)⟩
              case measure => have := HNL.out; (simp [intOf]) <;> omega
            have t2 : (yn.toList == xt.toList) = false := by rw [str_beq, decide_eq_false he]
            have HJI := Lib.hid (HJI.out he)
            have HKL := Lib.hid (Nat.le_of_lt HKL.out)
            clear he HJE
            refine Any.region_lit (fun
              | 0 => Any.val (.int .i64 (k : Int))
              | 1 => Any.val (.slice (some ⟨g, 0, none⟩) D.length co)
              | 2 => Any.val (.int .i64 (D.length : Int))
              | 3 => Any.val (.bool true)
              | 4 => Any.val (.bool true)
              | 5 => Any.val (.slice (some ⟨g, 0, none⟩) D.length co)
              | 6 => Any.val (.int .i64 (k : Int))
              | 7 => Any.val (.pointer (some ⟨g, k, none⟩))
              | 8 => Any.val (.string yn)
              | 9 => Any.val (.slice (some ⟨b, off, none⟩) l.length c)
              | 10 => Any.val (.int .i64 (n : Int))
              | 11 => Any.val (.pointer (some ⟨b, off + n * 6, none⟩))
              | 12 => Any.val (.pointer (some ⟨b, off + n * 6, none⟩))
              | 13 => Any.val (.string xt)
              | 14 => Any.val (.bool false)
              | 15 => Any.val (.bool false)
              | _ => Any.idle) (by kernel_rfl) (by kernel_rfl) (by kernel_rfl) ?_ ?_ ?_
            · intro i _
              match i with
              | 0 => exact Any.lasts_val _
              | 1 => exact Any.lasts_val _
              | 2 => exact Any.lasts_val _
              | 3 => exact Any.lasts_val _
              | 4 => exact Any.lasts_val _
              | 5 => exact Any.lasts_val _
              | 6 => exact Any.lasts_val _
              | 7 => exact Any.lasts_val _
              | 8 => exact Any.lasts_val _
              | 9 => exact Any.lasts_val _
              | 10 => exact Any.lasts_val _
              | 11 => exact Any.lasts_val _
              | 12 => exact Any.lasts_val _
              | 13 => exact Any.lasts_val _
              | 14 => exact Any.lasts_val _
              | 15 => exact Any.lasts_val _
              | n + 16 => exact Any.lasts_idle
            · refine ⟨?_, ?_, ?_, ?_, ?_, ?_, ?_, ?_, ?_, ?_, ?_, ?_, ?_, ?_, ?_, ?_, trivial⟩
              · refine Any.owes_plain rfl fun ρ wo hs' hb hc' => ?_
                have h5 : ρ (.tmp 5) = .int .i64 (k : Int) := hs'.old' 5 (by kernel_rfl)
                exact Any.ok_move (Any.post_val hb rfl h5)
              · refine Any.owes_plain rfl fun ρ wo hs' hb hc' => ?_
                have h3 : ρ (.tmp 3) = .slice (some ⟨g, 0, none⟩) D.length co := hs'.old' 3 (by kernel_rfl)
                exact Any.ok_move (Any.post_val hb rfl h3)
              · refine Any.owes_plain rfl fun ρ wo hs' hb hc' => ?_
                have h33 : ρ (.tmp 33) = .slice (some ⟨g, 0, none⟩) D.length co := hs'.new' 33 1 (by kernel_rfl)
                go_simp
                exact Any.post_val hb rfl rfl
              · refine Any.owes_plain rfl fun ρ wo hs' hb hc' => ?_
                have h32 : ρ (.tmp 32) = .int .i64 (k : Int) := hs'.new' 32 0 (by kernel_rfl)
                have h34 : ρ (.tmp 34) = .int .i64 (D.length : Int) := hs'.new' 34 2 (by kernel_rfl)
                go_simp
                exact Any.post_val hb rfl rfl
              · refine Any.owes_plain rfl fun ρ wo hs' hb hc' => ?_
                have h35 : ρ (.tmp 35) = .bool true := hs'.new' 35 3 (by kernel_rfl)
                exact Any.ok_move (Any.post_val hb rfl h35)
              · refine Any.owes_on rfl rfl (by kernel_rfl) rfl fun ρ wo hs' hb hc' => ?_
                have h3 : ρ (.tmp 3) = .slice (some ⟨g, 0, none⟩) D.length co := hs'.old' 3 (by kernel_rfl)
                exact Any.ok_move (Any.post_val hb rfl h3)
              · refine Any.owes_on rfl rfl (by kernel_rfl) rfl fun ρ wo hs' hb hc' => ?_
                have h5 : ρ (.tmp 5) = .int .i64 (k : Int) := hs'.old' 5 (by kernel_rfl)
                exact Any.ok_move (Any.post_val hb rfl h5)
              · refine Any.owes_on rfl rfl (by kernel_rfl) rfl fun ρ wo hs' hb hc' => ?_
                have h37 : ρ (.tmp 37) = .slice (some ⟨g, 0, none⟩) D.length co := hs'.new' 37 5 (by kernel_rfl)
                have h38 : ρ (.tmp 38) = .int .i64 (k : Int) := hs'.new' 38 6 (by kernel_rfl)
                go_simp
                exact Any.post_val hb rfl rfl
              · refine Any.owes_on rfl rfl (by kernel_rfl) rfl fun ρ wo hs' hb hc' => ?_
                have h39 : ρ (.tmp 39) = .pointer (some ⟨g, k, none⟩) := hs'.new' 39 7 (by kernel_rfl)
                have c0 := HY.out wo (HBL.out.trans ((below_undrew hb).mono HBL.out.size))
                go_simp
                exact Any.post_val hb rfl rfl
              · refine Any.owes_on rfl rfl (by kernel_rfl) rfl fun ρ wo hs' hb hc' => ?_
                have h0 : ρ (.tmp 0) = .slice (some ⟨b, off, none⟩) l.length c := hs'.old' 0 (by kernel_rfl)
                exact Any.ok_move (Any.post_val hb rfl h0)
              · refine Any.owes_on rfl rfl (by kernel_rfl) rfl fun ρ wo hs' hb hc' => ?_
                have h4 : ρ (.tmp 4) = .int .i64 (n : Int) := hs'.old' 4 (by kernel_rfl)
                exact Any.ok_move (Any.post_val hb rfl h4)
              · refine Any.owes_on rfl rfl (by kernel_rfl) rfl fun ρ wo hs' hb hc' => ?_
                have h41 : ρ (.tmp 41) = .slice (some ⟨b, off, none⟩) l.length c := hs'.new' 41 9 (by kernel_rfl)
                have h42 : ρ (.tmp 42) = .int .i64 (n : Int) := hs'.new' 42 10 (by kernel_rfl)
                go_simp
                exact Any.post_val hb rfl rfl
              · refine Any.owes_on rfl rfl (by kernel_rfl) rfl fun ρ wo hs' hb hc' => ?_
                have h43 : ρ (.tmp 43) = .pointer (some ⟨b, off + n * 6, none⟩) := hs'.new' 43 11 (by kernel_rfl)
                go_simp
                exact Any.post_val hb rfl rfl
              · refine Any.owes_on rfl rfl (by kernel_rfl) rfl fun ρ wo hs' hb hc' => ?_
                have h44 : ρ (.tmp 44) = .pointer (some ⟨b, off + n * 6, none⟩) := hs'.new' 44 12 (by kernel_rfl)
                have c0 := HX.out wo (HBL.out.trans ((below_undrew hb).mono HBL.out.size))
                go_simp
                exact Any.post_val hb rfl rfl
              · refine Any.owes_on rfl rfl (by kernel_rfl) rfl fun ρ wo hs' hb hc' => ?_
                have h40 : ρ (.tmp 40) = .string yn := hs'.new' 40 8 (by kernel_rfl)
                have h45 : ρ (.tmp 45) = .string xt := hs'.new' 45 13 (by kernel_rfl)
                go_simp
                exact Any.post_val hb rfl rfl
              · refine Any.owes_plain rfl fun ρ wo hs' hb hc' => ?_
                have h36 : ρ (.tmp 36) = .bool true := hs'.new' 36 4 (by kernel_rfl)
                have h46 : ρ (.tmp 46) = .bool false := hs'.new' 46 14 (by kernel_rfl)
                go_simp
                exact Any.post_val hb rfl rfl
            intro vals w8 hb hk ha
            have h15 : vals 15 = .bool false := hk 15 (by kernel_rfl)
            have HBL := Lib.hid (HBL.out.trans (hb.mono HBL.out.size))
            clear hk ha hb
            simp only [Any.putAll]
            go_frame
            simp only [Nat.zero_add, Nat.reduceAdd]
            rw [h15]
            clear h15
            go_wp2_with fail
            have HSO := Lib.hid (own_strs HOWN.out rfl)
            obtain ⟨i0, hi, hz, hsz, hby⟩ := info_parts infoStr
            have hcap := (Sl.take (m := k) HSO.out (by simpa using HKL.out)).1
            have QT : Hid (∀ w, (Instr.slice 49 (.slice (some ⟨g, 0, none⟩) D.length co) none (some (.int .i64 (k : Int))) none).run Try.prog w = .ok (.slice (some ⟨g, 0, none⟩) k co) w) := Lib.hid fun w => Any.run_slice_to Try.underlying49 hi (some ⟨g, 0, none⟩) _ co k hcap
            have QF : Hid (∀ w, (Instr.slice 49 (.slice (some ⟨g, 0, none⟩) D.length co) (some (.int .i64 (k : Int))) none none).run Try.prog w = .ok (cutV (some ⟨g, 0, none⟩) D.length co k 1) w) := Lib.hid fun w => run_slice_from Try.underlying49 hi hsz (some ⟨g, 0, none⟩) _ co k HKL.out
            have HSA : Hid (∀ W, Below w5.heap.size w5 W → Src W 1 (.slice (some ⟨g, 0, none⟩) k co) k (strCells (D.take k))) := Lib.hid fun W hW => by
              have h1 := (Sl.take (m := k) (HSO.out.below hW (Nat.le_refl _)) (by simpa using HKL.out)).2
              rw [← List.map_take] at h1
              have h2 := src_strs h1
              rwa [List.length_take, Nat.min_eq_left HKL.out] at h2
            have HSD : Hid (∀ W, Below w5.heap.size w5 W → Src W 1 (cutV (some ⟨g, 0, none⟩) D.length co k 1) (D.length - k) (strCells (D.drop k))) := Lib.hid fun W hW => by
              have h1 := Sl.drop (k := k) (HSO.out.below hW (Nat.le_refl _)) (by simpa using HKL.out)
              rw [← List.map_drop] at h1
              have h2 := src_strs h1
              rwa [List.length_drop] at h2
            have HL : Hid (k + 1 ≤ maxLen ∧ (k + 1) * 16 ≤ 140737488355328) := Lib.hid (by have := HKL.out; have := HLL.out; simp only [maxLen]; omega)
            have HL2 : Hid (k + 1 + (D.length - k) ≤ maxLen ∧ (k + 1 + (D.length - k)) * 16 ≤ 140737488355328) := Lib.hid (by have := HKL.out; have := HLL.out; simp only [maxLen]; omega)
            clear hi hz hsz hby hcap
            refine Any.region_lit (fun
              | 0 => Any.row w8.heap.size 9 1 (0) ([]) []
              | 1 => Any.val (.slice (some ⟨g, 0, none⟩) D.length co)
              | 2 => Any.val (.int .i64 (k : Int))
              | 3 => Any.val (.slice (some ⟨g, 0, none⟩) k co)
              | 4 => Any.row w8.heap.size 9 1 (k) (strCells (D.take k)) [0]
              | 5 => Any.val (.slice (some ⟨b, off, none⟩) l.length c)
              | 6 => Any.val (.int .i64 (n : Int))
              | 7 => Any.val (.pointer (some ⟨b, off + n * 6, none⟩))
              | 8 => Any.val (.pointer (some ⟨b, off + n * 6, none⟩))
              | 9 => Any.val (.string xt)
              | 10 => Any.made 9 1 #[.string xt]
              | 11 => Any.row w8.heap.size 9 1 (k + 1) (strCells (D.take k) ++ [.string xt]) [4]
              | 12 => Any.row w8.heap.size 9 1 (k + 1) (strCells (D.take k) ++ [.string xt]) [11]
              | _ => Any.idle) (by kernel_rfl) (by kernel_rfl) (by kernel_rfl) ?_ ?_ ?_
            · intro i _
              match i with
              | 0 => exact Any.lasts_row _ _ _ _ _ _
              | 1 => exact Any.lasts_val _
              | 2 => exact Any.lasts_val _
              | 3 => exact Any.lasts_val _
              | 4 => exact Any.lasts_row _ _ _ _ _ _
              | 5 => exact Any.lasts_val _
              | 6 => exact Any.lasts_val _
              | 7 => exact Any.lasts_val _
              | 8 => exact Any.lasts_val _
              | 9 => exact Any.lasts_val _
              | 10 => exact Any.lasts_made _ _ _
              | 11 => exact Any.lasts_row _ _ _ _ _ _
              | 12 => exact Any.lasts_row _ _ _ _ _ _
              | n + 13 => exact Any.lasts_idle
            · refine ⟨?_, ?_, ?_, ?_, ?_, ?_, ?_, ?_, ?_, ?_, ?_, ?_, ?_, trivial⟩
              · refine Any.owes_plain rfl fun ρ wo hs' hb hc' => ?_
                go_simp
                exact Any.post_new hb (own_empty (show w8.heap.size ≤ wo.heap.size from hb.size)) (one_below _ _) (by intro b hb'; obtain rfl : wo.heap.size = b := Option.some.inj hb'; exact Nat.le_refl _)
              · refine Any.owes_plain rfl fun ρ wo hs' hb hc' => ?_
                have h3 : ρ (.tmp 3) = .slice (some ⟨g, 0, none⟩) D.length co := hs'.old' 3 (by kernel_rfl)
                exact Any.ok_move (Any.post_val hb rfl h3)
              · refine Any.owes_plain rfl fun ρ wo hs' hb hc' => ?_
                have h5 : ρ (.tmp 5) = .int .i64 (k : Int) := hs'.old' 5 (by kernel_rfl)
                exact Any.ok_move (Any.post_val hb rfl h5)
              · refine Any.owes_plain rfl fun ρ wo hs' hb hc' => ?_
                have h49 : ρ (.tmp 49) = .slice (some ⟨g, 0, none⟩) D.length co := hs'.new' 49 1 (by kernel_rfl)
                have h50 : ρ (.tmp 50) = .int .i64 (k : Int) := hs'.new' 50 2 (by kernel_rfl)
                have q1 := QT.out wo
                go_simp
                exact Any.post_val hb rfl rfl
              · refine Any.owes_plain rfl fun ρ wo hs' hb hc' => ?_
                have h51 : ρ (.tmp 51) = .slice (some ⟨g, 0, none⟩) k co := hs'.new' 51 3 (by kernel_rfl)
                have h8 : wo.ownsRow w8.heap.size 9 1 (ρ (.tmp 48)) 0 [] := hs'.new' 48 0 (by kernel_rfl)
                have hsrc : Src wo 1 (ρ (.tmp 51)) k (strCells (D.take k)) := by rw [h51]; exact HSA.out wo (HBL.out.trans ((below_undrew hb).mono HBL.out.size))
                refine Any.ok_append_own Try.underlying49 HI.out.1 HI.out.2.1 HI.out.2.2.1 HI.out.2.2.2 rfl (by decide) h8 hsrc (strs_one _) (by have := HL.out.1; omega) (by have := HL.out.2; omega) (show w8.heap.size ≤ wo.heap.size from hb.size) fun v' w' h1 h2 h3 => ?_
                rw [List.nil_append, Nat.zero_add] at h1
                exact Any.post_take hb h1 h2 rfl ⟨_, _, _, rfl⟩ rfl rfl (Nat.le_refl _) h3 (fun b hb => (h8.lt b hb).1)
              · refine Any.owes_plain rfl fun ρ wo hs' hb hc' => ?_
                have h0 : ρ (.tmp 0) = .slice (some ⟨b, off, none⟩) l.length c := hs'.old' 0 (by kernel_rfl)
                exact Any.ok_move (Any.post_val hb rfl h0)
              · refine Any.owes_plain rfl fun ρ wo hs' hb hc' => ?_
                have h4 : ρ (.tmp 4) = .int .i64 (n : Int) := hs'.old' 4 (by kernel_rfl)
                exact Any.ok_move (Any.post_val hb rfl h4)
              · refine Any.owes_plain rfl fun ρ wo hs' hb hc' => ?_
                have h53 : ρ (.tmp 53) = .slice (some ⟨b, off, none⟩) l.length c := hs'.new' 53 5 (by kernel_rfl)
                have h54 : ρ (.tmp 54) = .int .i64 (n : Int) := hs'.new' 54 6 (by kernel_rfl)
                go_simp
                exact Any.post_val hb rfl rfl
              · refine Any.owes_plain rfl fun ρ wo hs' hb hc' => ?_
                have h55 : ρ (.tmp 55) = .pointer (some ⟨b, off + n * 6, none⟩) := hs'.new' 55 7 (by kernel_rfl)
                go_simp
                exact Any.post_val hb rfl rfl
              · refine Any.owes_plain rfl fun ρ wo hs' hb hc' => ?_
                have h56 : ρ (.tmp 56) = .pointer (some ⟨b, off + n * 6, none⟩) := hs'.new' 56 8 (by kernel_rfl)
                have c0 := HX.out wo (HBL.out.trans ((below_undrew hb).mono HBL.out.size))
                go_simp
                exact Any.post_val hb rfl rfl
              · refine Any.owes_plain rfl fun ρ wo hs' hb hc' => ?_
                have h57 : ρ (.tmp 57) = .string xt := hs'.new' 57 9 (by kernel_rfl)
                go_simp
                exact Any.post_new hb ⟨_, rfl, heap_alloc_new _ _⟩ (one_below _ _) (by intro b hb'; obtain rfl : wo.heap.size = b := Option.some.inj hb'; exact Nat.le_refl _)
              · refine Any.owes_plain rfl fun ρ wo hs' hb hc' => ?_
                have h8 : wo.ownsRow w8.heap.size 9 1 (ρ (.tmp 52)) (k) (strCells (D.take k)) := hs'.new' 52 4 (by kernel_rfl)
                obtain ⟨g, hg, hgb⟩ := hs'.new' 58 10 (by kernel_rfl)
                have hsrc : Src wo 1 (ρ (.tmp 58)) 1 [.string xt] := by rw [hg]; exact src_block hgb rfl
                refine Any.ok_append_own Try.underlying49 HI.out.1 HI.out.2.1 HI.out.2.2.1 HI.out.2.2.2 rfl (by decide) h8 hsrc (str_one xt) HL.out.1 HL.out.2 (show w8.heap.size ≤ wo.heap.size from hb.size) fun v' w' h1 h2 h3 => ?_
                exact Any.post_take hb h1 h2 rfl ⟨_, _, _, rfl⟩ rfl rfl (Nat.le_refl _) h3 (fun b hb => (h8.lt b hb).1)
              · refine Any.owes_plain rfl fun ρ wo hs' hb hc' => ?_
                have h8 : wo.ownsRow w8.heap.size 9 1 (ρ (.tmp 59)) (k + 1) (strCells (D.take k) ++ [.string xt]) := hs'.new' 59 11 (by kernel_rfl)
                exact Any.ok_assign (Any.post_pass hb rfl ⟨_, rfl⟩ rfl rfl h8)
            intro vals w9 hb hk ha
            have o12 : w9.ownsRow w8.heap.size 9 1 (vals 12) (k + 1) (strCells (D.take k) ++ [.string xt]) := hk 12 (by kernel_rfl)
            have HB58 := HBL
            have hb8 := Lib.hid hb.size
            have HBL := Lib.hid (HBL.out.trans (hb.mono HBL.out.size))
            clear hk ha hb
            simp only [Any.putAll]
            go_frame
            simp only [Nat.zero_add, Nat.reduceAdd]
            generalize vals 12 = v9 at *
            have HO9 := Lib.hid o12
            have HN89 : Hid (w8.heap.size ≤ w9.heap.size) := Lib.hid hb8.out
            clear o12
            have q2 := QF.out w9
            go_wp2_with (first
              | ((with_reducible refine Any.wpl_cat (vx := v9) (vy := cutV (some ⟨g, 0, none⟩) D.length co k 1) (base := w8.heap.size) (n := k + 1) (m := D.length - k) (xs := strCells (D.take k) ++ [.string xt]) (news := strCells (D.drop k)) ?_ ?_ ?_ Try.underlying49 HI.out.1 HI.out.2.1 HI.out.2.2.1 HI.out.2.2.2 rfl (by decide) HO9.out (HSD.out w9 HBL.out) (strs_one _) HL2.out.1 HL2.out.2 HN89.out ?_); rfl; rfl; rfl; intro v10 w10 ho10 hg10 hw10; have HO10 := Lib.hid ho10; have HG10 := Lib.hid hg10; clear ho10 hg10 hw10; go_frame)
              | fail)
            have HOF := Lib.hid (ownsRow_base (own_insS (x := xt) HKL.out HO10.out) (Nat.le_trans HBEL.out.size HB58.out.size))
            have HBF : Hid (Below w.heap.size w w10) := Lib.hid ((HBEL.out.trans (HBL.out.mono HBEL.out.size)).grown HG10.out (Nat.le_trans HBEL.out.size HBL.out.size) (fun j hj => Nat.le_trans (Nat.le_trans HBEL.out.size HB58.out.size) (HO9.out.lt j hj).1))
            go_roundw
            case rel => exact ⟨n + 1, by have := HNL.out; omega, by go_num, by rw [HNX.out, HJI.out]; exact HOF.out, HBF.out⟩
            case measure => have := HNL.out; (simp [intOf]) <;> omega
        · have tk : decide (k < D.length) = false := decide_eq_false hlk
          have HJI := Lib.hid (tIns_new hk HLO.out fun h => absurd h hlk)
          clear hlk hk
          go_wp2_with fail
          refine Any.region_lit (fun
            | 0 => Any.val (.int .i64 (k : Int))
            | 1 => Any.val (.slice ao D.length co)
            | 2 => Any.val (.int .i64 (D.length : Int))
            | 3 => Any.val (.bool false)
            | 4 => Any.val (.bool false)
            | 5 => Any.idle
            | 6 => Any.idle
            | 7 => Any.idle
            | 8 => Any.idle
            | 9 => Any.idle
            | 10 => Any.idle
            | 11 => Any.idle
            | 12 => Any.idle
            | 13 => Any.idle
            | 14 => Any.idle
            | 15 => Any.val (.bool false)
            | _ => Any.idle) (by kernel_rfl) (by kernel_rfl) (by kernel_rfl) ?_ ?_ ?_
          · intro i _
            match i with
            | 0 => exact Any.lasts_val _
            | 1 => exact Any.lasts_val _
            | 2 => exact Any.lasts_val _
            | 3 => exact Any.lasts_val _
            | 4 => exact Any.lasts_val _
            | 5 => exact Any.lasts_idle
            | 6 => exact Any.lasts_idle
            | 7 => exact Any.lasts_idle
            | 8 => exact Any.lasts_idle
            | 9 => exact Any.lasts_idle
            | 10 => exact Any.lasts_idle
            | 11 => exact Any.lasts_idle
            | 12 => exact Any.lasts_idle
            | 13 => exact Any.lasts_idle
            | 14 => exact Any.lasts_idle
            | 15 => exact Any.lasts_val _
            | n + 16 => exact Any.lasts_idle
          · refine ⟨?_, ?_, ?_, ?_, ?_, ?_, ?_, ?_, ?_, ?_, ?_, ?_, ?_, ?_, ?_, ?_, trivial⟩
            · refine Any.owes_plain rfl fun ρ wo hs' hb hc' => ?_
              have h5 : ρ (.tmp 5) = .int .i64 (k : Int) := hs'.old' 5 (by kernel_rfl)
              exact Any.ok_move (Any.post_val hb rfl h5)
            · refine Any.owes_plain rfl fun ρ wo hs' hb hc' => ?_
              have h3 : ρ (.tmp 3) = .slice ao D.length co := hs'.old' 3 (by kernel_rfl)
              exact Any.ok_move (Any.post_val hb rfl h3)
            · refine Any.owes_plain rfl fun ρ wo hs' hb hc' => ?_
              have h15 : ρ (.tmp 15) = .slice ao D.length co := hs'.new' 15 1 (by kernel_rfl)
              go_simp
              exact Any.post_val hb rfl rfl
            · refine Any.owes_plain rfl fun ρ wo hs' hb hc' => ?_
              have h14 : ρ (.tmp 14) = .int .i64 (k : Int) := hs'.new' 14 0 (by kernel_rfl)
              have h16 : ρ (.tmp 16) = .int .i64 (D.length : Int) := hs'.new' 16 2 (by kernel_rfl)
              go_simp
              exact Any.post_val hb rfl rfl
            · refine Any.owes_plain rfl fun ρ wo hs' hb hc' => ?_
              have h17 : ρ (.tmp 17) = .bool false := hs'.new' 17 3 (by kernel_rfl)
              exact Any.ok_move (Any.post_val hb rfl h17)
            · exact Any.owes_off rfl rfl (by kernel_rfl) rfl (by decide) rfl
            · exact Any.owes_off rfl rfl (by kernel_rfl) rfl (by decide) rfl
            · exact Any.owes_off rfl rfl (by kernel_rfl) rfl (by decide) rfl
            · exact Any.owes_off rfl rfl (by kernel_rfl) rfl (by decide) rfl
            · exact Any.owes_off rfl rfl (by kernel_rfl) rfl (by decide) rfl
            · exact Any.owes_off rfl rfl (by kernel_rfl) rfl (by decide) rfl
            · exact Any.owes_off rfl rfl (by kernel_rfl) rfl (by decide) rfl
            · exact Any.owes_off rfl rfl (by kernel_rfl) rfl (by decide) rfl
            · exact Any.owes_off rfl rfl (by kernel_rfl) rfl (by decide) rfl
            · exact Any.owes_off rfl rfl (by kernel_rfl) rfl (by decide) rfl
            · refine Any.owes_plain rfl fun ρ wo hs' hb hc' => ?_
              have h18 : ρ (.tmp 18) = .bool false := hs'.new' 18 4 (by kernel_rfl)
              go_simp
              exact Any.post_val hb rfl rfl
          intro vals w7 hb hk ha
          have h15 : vals 15 = .bool false := hk 15 (by kernel_rfl)
          have HBL := Lib.hid (HBL.out.trans (hb.mono HBL.out.size))
          clear hk ha hb
          simp only [Any.putAll]
          go_frame
          simp only [Nat.zero_add, Nat.reduceAdd]
          rw [h15]
          clear h15
          go_wp2_with fail
          refine Any.region_lit (fun
            | 0 => Any.val (.int .i64 (k : Int))
            | 1 => Any.val (.slice ao D.length co)
            | 2 => Any.val (.int .i64 (D.length : Int))
            | 3 => Any.val (.bool false)
            | 4 => Any.val (.bool false)
            | 5 => Any.idle
            | 6 => Any.idle
            | 7 => Any.idle
            | 8 => Any.idle
            | 9 => Any.idle
            | 10 => Any.idle
            | 11 => Any.idle
            | 12 => Any.idle
            | 13 => Any.idle
            | 14 => Any.idle
            | 15 => Any.val (.bool false)
            | _ => Any.idle) (by kernel_rfl) (by kernel_rfl) (by kernel_rfl) ?_ ?_ ?_
          · intro i _
            match i with
            | 0 => exact Any.lasts_val _
            | 1 => exact Any.lasts_val _
            | 2 => exact Any.lasts_val _
            | 3 => exact Any.lasts_val _
            | 4 => exact Any.lasts_val _
            | 5 => exact Any.lasts_idle
            | 6 => exact Any.lasts_idle
            | 7 => exact Any.lasts_idle
            | 8 => exact Any.lasts_idle
            | 9 => exact Any.lasts_idle
            | 10 => exact Any.lasts_idle
            | 11 => exact Any.lasts_idle
            | 12 => exact Any.lasts_idle
            | 13 => exact Any.lasts_idle
            | 14 => exact Any.lasts_idle
            | 15 => exact Any.lasts_val _
            | n + 16 => exact Any.lasts_idle
          · refine ⟨?_, ?_, ?_, ?_, ?_, ?_, ?_, ?_, ?_, ?_, ?_, ?_, ?_, ?_, ?_, ?_, trivial⟩
            · refine Any.owes_plain rfl fun ρ wo hs' hb hc' => ?_
              have h5 : ρ (.tmp 5) = .int .i64 (k : Int) := hs'.old' 5 (by kernel_rfl)
              exact Any.ok_move (Any.post_val hb rfl h5)
            · refine Any.owes_plain rfl fun ρ wo hs' hb hc' => ?_
              have h3 : ρ (.tmp 3) = .slice ao D.length co := hs'.old' 3 (by kernel_rfl)
              exact Any.ok_move (Any.post_val hb rfl h3)
            · refine Any.owes_plain rfl fun ρ wo hs' hb hc' => ?_
              have h33 : ρ (.tmp 33) = .slice ao D.length co := hs'.new' 33 1 (by kernel_rfl)
              go_simp
              exact Any.post_val hb rfl rfl
            · refine Any.owes_plain rfl fun ρ wo hs' hb hc' => ?_
              have h32 : ρ (.tmp 32) = .int .i64 (k : Int) := hs'.new' 32 0 (by kernel_rfl)
              have h34 : ρ (.tmp 34) = .int .i64 (D.length : Int) := hs'.new' 34 2 (by kernel_rfl)
              go_simp
              exact Any.post_val hb rfl rfl
            · refine Any.owes_plain rfl fun ρ wo hs' hb hc' => ?_
              have h35 : ρ (.tmp 35) = .bool false := hs'.new' 35 3 (by kernel_rfl)
              exact Any.ok_move (Any.post_val hb rfl h35)
            · exact Any.owes_off rfl rfl (by kernel_rfl) rfl (by decide) rfl
            · exact Any.owes_off rfl rfl (by kernel_rfl) rfl (by decide) rfl
            · exact Any.owes_off rfl rfl (by kernel_rfl) rfl (by decide) rfl
            · exact Any.owes_off rfl rfl (by kernel_rfl) rfl (by decide) rfl
            · exact Any.owes_off rfl rfl (by kernel_rfl) rfl (by decide) rfl
            · exact Any.owes_off rfl rfl (by kernel_rfl) rfl (by decide) rfl
            · exact Any.owes_off rfl rfl (by kernel_rfl) rfl (by decide) rfl
            · exact Any.owes_off rfl rfl (by kernel_rfl) rfl (by decide) rfl
            · exact Any.owes_off rfl rfl (by kernel_rfl) rfl (by decide) rfl
            · exact Any.owes_off rfl rfl (by kernel_rfl) rfl (by decide) rfl
            · refine Any.owes_plain rfl fun ρ wo hs' hb hc' => ?_
              have h36 : ρ (.tmp 36) = .bool false := hs'.new' 36 4 (by kernel_rfl)
              go_simp
              exact Any.post_val hb rfl rfl
          intro vals w8 hb hk ha
          have h15 : vals 15 = .bool false := hk 15 (by kernel_rfl)
          have HBL := Lib.hid (HBL.out.trans (hb.mono HBL.out.size))
          clear hk ha hb
          simp only [Any.putAll]
          go_frame
          simp only [Nat.zero_add, Nat.reduceAdd]
          rw [h15]
          clear h15
          go_wp2_with fail
          have HSO := Lib.hid (own_strs HOWN.out rfl)
          obtain ⟨i0, hi, hz, hsz, hby⟩ := info_parts infoStr
          have hcap := (Sl.take (m := k) HSO.out (by simpa using HKL.out)).1
          have QT : Hid (∀ w, (Instr.slice 49 (.slice ao D.length co) none (some (.int .i64 (k : Int))) none).run Try.prog w = .ok (.slice ao k co) w) := Lib.hid fun w => Any.run_slice_to Try.underlying49 hi ao _ co k hcap
          have QF : Hid (∀ w, (Instr.slice 49 (.slice ao D.length co) (some (.int .i64 (k : Int))) none none).run Try.prog w = .ok (cutV ao D.length co k 1) w) := Lib.hid fun w => run_slice_from Try.underlying49 hi hsz ao _ co k HKL.out
          have HSA : Hid (∀ W, Below w5.heap.size w5 W → Src W 1 (.slice ao k co) k (strCells (D.take k))) := Lib.hid fun W hW => by
            have h1 := (Sl.take (m := k) (HSO.out.below hW (Nat.le_refl _)) (by simpa using HKL.out)).2
            rw [← List.map_take] at h1
            have h2 := src_strs h1
            rwa [List.length_take, Nat.min_eq_left HKL.out] at h2
          have HSD : Hid (∀ W, Below w5.heap.size w5 W → Src W 1 (cutV ao D.length co k 1) (D.length - k) (strCells (D.drop k))) := Lib.hid fun W hW => by
            have h1 := Sl.drop (k := k) (HSO.out.below hW (Nat.le_refl _)) (by simpa using HKL.out)
            rw [← List.map_drop] at h1
            have h2 := src_strs h1
            rwa [List.length_drop] at h2
          have HL : Hid (k + 1 ≤ maxLen ∧ (k + 1) * 16 ≤ 140737488355328) := Lib.hid (by have := HKL.out; have := HLL.out; simp only [maxLen]; omega)
          have HL2 : Hid (k + 1 + (D.length - k) ≤ maxLen ∧ (k + 1 + (D.length - k)) * 16 ≤ 140737488355328) := Lib.hid (by have := HKL.out; have := HLL.out; simp only [maxLen]; omega)
          clear hi hz hsz hby hcap
          refine Any.region_lit (fun
            | 0 => Any.row w8.heap.size 9 1 (0) ([]) []
            | 1 => Any.val (.slice ao D.length co)
            | 2 => Any.val (.int .i64 (k : Int))
            | 3 => Any.val (.slice ao k co)
            | 4 => Any.row w8.heap.size 9 1 (k) (strCells (D.take k)) [0]
            | 5 => Any.val (.slice (some ⟨b, off, none⟩) l.length c)
            | 6 => Any.val (.int .i64 (n : Int))
            | 7 => Any.val (.pointer (some ⟨b, off + n * 6, none⟩))
            | 8 => Any.val (.pointer (some ⟨b, off + n * 6, none⟩))
            | 9 => Any.val (.string xt)
            | 10 => Any.made 9 1 #[.string xt]
            | 11 => Any.row w8.heap.size 9 1 (k + 1) (strCells (D.take k) ++ [.string xt]) [4]
            | 12 => Any.row w8.heap.size 9 1 (k + 1) (strCells (D.take k) ++ [.string xt]) [11]
            | _ => Any.idle) (by kernel_rfl) (by kernel_rfl) (by kernel_rfl) ?_ ?_ ?_
          · intro i _
            match i with
            | 0 => exact Any.lasts_row _ _ _ _ _ _
            | 1 => exact Any.lasts_val _
            | 2 => exact Any.lasts_val _
            | 3 => exact Any.lasts_val _
            | 4 => exact Any.lasts_row _ _ _ _ _ _
            | 5 => exact Any.lasts_val _
            | 6 => exact Any.lasts_val _
            | 7 => exact Any.lasts_val _
            | 8 => exact Any.lasts_val _
            | 9 => exact Any.lasts_val _
            | 10 => exact Any.lasts_made _ _ _
            | 11 => exact Any.lasts_row _ _ _ _ _ _
            | 12 => exact Any.lasts_row _ _ _ _ _ _
            | n + 13 => exact Any.lasts_idle
          · refine ⟨?_, ?_, ?_, ?_, ?_, ?_, ?_, ?_, ?_, ?_, ?_, ?_, ?_, trivial⟩
            · refine Any.owes_plain rfl fun ρ wo hs' hb hc' => ?_
              go_simp
              exact Any.post_new hb (own_empty (show w8.heap.size ≤ wo.heap.size from hb.size)) (one_below _ _) (by intro b hb'; obtain rfl : wo.heap.size = b := Option.some.inj hb'; exact Nat.le_refl _)
            · refine Any.owes_plain rfl fun ρ wo hs' hb hc' => ?_
              have h3 : ρ (.tmp 3) = .slice ao D.length co := hs'.old' 3 (by kernel_rfl)
              exact Any.ok_move (Any.post_val hb rfl h3)
            · refine Any.owes_plain rfl fun ρ wo hs' hb hc' => ?_
              have h5 : ρ (.tmp 5) = .int .i64 (k : Int) := hs'.old' 5 (by kernel_rfl)
              exact Any.ok_move (Any.post_val hb rfl h5)
            · refine Any.owes_plain rfl fun ρ wo hs' hb hc' => ?_
              have h49 : ρ (.tmp 49) = .slice ao D.length co := hs'.new' 49 1 (by kernel_rfl)
              have h50 : ρ (.tmp 50) = .int .i64 (k : Int) := hs'.new' 50 2 (by kernel_rfl)
              have q1 := QT.out wo
              go_simp
              exact Any.post_val hb rfl rfl
            · refine Any.owes_plain rfl fun ρ wo hs' hb hc' => ?_
              have h51 : ρ (.tmp 51) = .slice ao k co := hs'.new' 51 3 (by kernel_rfl)
              have h8 : wo.ownsRow w8.heap.size 9 1 (ρ (.tmp 48)) 0 [] := hs'.new' 48 0 (by kernel_rfl)
              have hsrc : Src wo 1 (ρ (.tmp 51)) k (strCells (D.take k)) := by rw [h51]; exact HSA.out wo (HBL.out.trans ((below_undrew hb).mono HBL.out.size))
              refine Any.ok_append_own Try.underlying49 HI.out.1 HI.out.2.1 HI.out.2.2.1 HI.out.2.2.2 rfl (by decide) h8 hsrc (strs_one _) (by have := HL.out.1; omega) (by have := HL.out.2; omega) (show w8.heap.size ≤ wo.heap.size from hb.size) fun v' w' h1 h2 h3 => ?_
              rw [List.nil_append, Nat.zero_add] at h1
              exact Any.post_take hb h1 h2 rfl ⟨_, _, _, rfl⟩ rfl rfl (Nat.le_refl _) h3 (fun b hb => (h8.lt b hb).1)
            · refine Any.owes_plain rfl fun ρ wo hs' hb hc' => ?_
              have h0 : ρ (.tmp 0) = .slice (some ⟨b, off, none⟩) l.length c := hs'.old' 0 (by kernel_rfl)
              exact Any.ok_move (Any.post_val hb rfl h0)
            · refine Any.owes_plain rfl fun ρ wo hs' hb hc' => ?_
              have h4 : ρ (.tmp 4) = .int .i64 (n : Int) := hs'.old' 4 (by kernel_rfl)
              exact Any.ok_move (Any.post_val hb rfl h4)
            · refine Any.owes_plain rfl fun ρ wo hs' hb hc' => ?_
              have h53 : ρ (.tmp 53) = .slice (some ⟨b, off, none⟩) l.length c := hs'.new' 53 5 (by kernel_rfl)
              have h54 : ρ (.tmp 54) = .int .i64 (n : Int) := hs'.new' 54 6 (by kernel_rfl)
              go_simp
              exact Any.post_val hb rfl rfl
            · refine Any.owes_plain rfl fun ρ wo hs' hb hc' => ?_
              have h55 : ρ (.tmp 55) = .pointer (some ⟨b, off + n * 6, none⟩) := hs'.new' 55 7 (by kernel_rfl)
              go_simp
              exact Any.post_val hb rfl rfl
            · refine Any.owes_plain rfl fun ρ wo hs' hb hc' => ?_
              have h56 : ρ (.tmp 56) = .pointer (some ⟨b, off + n * 6, none⟩) := hs'.new' 56 8 (by kernel_rfl)
              have c0 := HX.out wo (HBL.out.trans ((below_undrew hb).mono HBL.out.size))
              go_simp
              exact Any.post_val hb rfl rfl
            · refine Any.owes_plain rfl fun ρ wo hs' hb hc' => ?_
              have h57 : ρ (.tmp 57) = .string xt := hs'.new' 57 9 (by kernel_rfl)
              go_simp
              exact Any.post_new hb ⟨_, rfl, heap_alloc_new _ _⟩ (one_below _ _) (by intro b hb'; obtain rfl : wo.heap.size = b := Option.some.inj hb'; exact Nat.le_refl _)
            · refine Any.owes_plain rfl fun ρ wo hs' hb hc' => ?_
              have h8 : wo.ownsRow w8.heap.size 9 1 (ρ (.tmp 52)) (k) (strCells (D.take k)) := hs'.new' 52 4 (by kernel_rfl)
              obtain ⟨g, hg, hgb⟩ := hs'.new' 58 10 (by kernel_rfl)
              have hsrc : Src wo 1 (ρ (.tmp 58)) 1 [.string xt] := by rw [hg]; exact src_block hgb rfl
              refine Any.ok_append_own Try.underlying49 HI.out.1 HI.out.2.1 HI.out.2.2.1 HI.out.2.2.2 rfl (by decide) h8 hsrc (str_one xt) HL.out.1 HL.out.2 (show w8.heap.size ≤ wo.heap.size from hb.size) fun v' w' h1 h2 h3 => ?_
              exact Any.post_take hb h1 h2 rfl ⟨_, _, _, rfl⟩ rfl rfl (Nat.le_refl _) h3 (fun b hb => (h8.lt b hb).1)
            · refine Any.owes_plain rfl fun ρ wo hs' hb hc' => ?_
              have h8 : wo.ownsRow w8.heap.size 9 1 (ρ (.tmp 59)) (k + 1) (strCells (D.take k) ++ [.string xt]) := hs'.new' 59 11 (by kernel_rfl)
              exact Any.ok_assign (Any.post_pass hb rfl ⟨_, rfl⟩ rfl rfl h8)
          intro vals w9 hb hk ha
          have o12 : w9.ownsRow w8.heap.size 9 1 (vals 12) (k + 1) (strCells (D.take k) ++ [.string xt]) := hk 12 (by kernel_rfl)
          have HB58 := HBL
          have hb8 := Lib.hid hb.size
          have HBL := Lib.hid (HBL.out.trans (hb.mono HBL.out.size))
          clear hk ha hb
          simp only [Any.putAll]
          go_frame
          simp only [Nat.zero_add, Nat.reduceAdd]
          generalize vals 12 = v9 at *
          have HO9 := Lib.hid o12
          have HN89 : Hid (w8.heap.size ≤ w9.heap.size) := Lib.hid hb8.out
          clear o12
          have q2 := QF.out w9
          go_wp2_with (first
            | ((with_reducible refine Any.wpl_cat (vx := v9) (vy := cutV ao D.length co k 1) (base := w8.heap.size) (n := k + 1) (m := D.length - k) (xs := strCells (D.take k) ++ [.string xt]) (news := strCells (D.drop k)) ?_ ?_ ?_ Try.underlying49 HI.out.1 HI.out.2.1 HI.out.2.2.1 HI.out.2.2.2 rfl (by decide) HO9.out (HSD.out w9 HBL.out) (strs_one _) HL2.out.1 HL2.out.2 HN89.out ?_); rfl; rfl; rfl; intro v10 w10 ho10 hg10 hw10; have HO10 := Lib.hid ho10; have HG10 := Lib.hid hg10; clear ho10 hg10 hw10; go_frame)
            | fail)
          have HOF := Lib.hid (ownsRow_base (own_insS (x := xt) HKL.out HO10.out) (Nat.le_trans HBEL.out.size HB58.out.size))
          have HBF : Hid (Below w.heap.size w w10) := Lib.hid ((HBEL.out.trans (HBL.out.mono HBEL.out.size)).grown HG10.out (Nat.le_trans HBEL.out.size HBL.out.size) (fun j hj => Nat.le_trans (Nat.le_trans HBEL.out.size HB58.out.size) (HO9.out.lt j hj).1))
          go_roundw
          case rel => exact ⟨n + 1, by have := HNL.out; omega, by go_num, by rw [HNX.out, HJI.out]; exact HOF.out, HBF.out⟩
          case measure => have := HNL.out; (simp [intOf]) <;> omega
    · have HE : Hid (l.take n = l) := Lib.hid (List.take_of_length_le (by omega))
      clear hown hbel hn
      go_wp2_with fail
      go_ret
      have ho := HOWN.out
      rw [HE.out] at ho
      exact retRow ho (Nat.le_refl _) HBEL.out
set_option maxRecDepth 5000 in
set_option maxHeartbeats 1000000 in
theorem refTexts26_any (l m : List ByteArray) (v u : Value) (w : World) (hs : Sl w 1 v (l.map stRow)) (hu : Sl w 1 u (m.map stRow)) :
    Calls Try.prog 36 #[v, u] w (RetB w (decide (l = m))) := by
  have hml : l.length ≤ 9223372036854775807 := by have := hs.len_le; simp only [List.length_map, maxLen] at this; omega
  have hmm : m.length ≤ 9223372036854775807 := by have := hu.len_le; simp only [List.length_map, maxLen] at this; omega
  obtain ⟨a, c, rfl⟩ : ∃ a c, v = .slice a l.length c := by simpa using hs.shape
  obtain ⟨a', c', rfl⟩ : ∃ a c, u = .slice a m.length c := by simpa using hu.shape
  have HSL := Lib.hid hs
  have HSM := Lib.hid hu
  clear hs hu
  by_cases hlm : l.length = m.length
  · have t0 : ((l.length : Int) != (m.length : Int)) = false := by simp [hlm]
    have HLM := Lib.hid hlm
    clear hlm
    go_enter Try.func36, Try.ntmps36
    go_wp2_with fail
    clear t0
    go_loopw [5] (fun i wr => ∃ k : Nat, k ≤ l.length ∧ i = .int .i64 k ∧ decide (l = m) = decide (l.drop k = m.drop k) ∧ Below w.heap.size w wr) (fun i _ => l.length - (intOf i).toNat)
    case atStart => exact ⟨0, Nat.zero_le _, rfl, rfl, Below.refl _ _⟩
    case round =>
      obtain ⟨k, hk, rfl, hrel, hbel⟩ := hrel
      by_cases hlt : k < l.length
      · have hlt' : k < m.length := by have := HLM.out; omega
        obtain ⟨b, off, rfl, -, hb, hc⟩ := HSL.out.at (i := k) (by simpa using hlt)
        obtain ⟨b', off', rfl, -, hb', hc'⟩ := HSM.out.at (i := k) (by simpa using hlt')
        have d0 := (hbel.cell (p := ⟨b, off + k * 1, none⟩) hb).trans (hc k (stRow l[k]) (by simp [hlt]) 0 _ rfl)
        have e0 := (hbel.cell (p := ⟨b', off' + k * 1, none⟩) hb').trans (hc' k (stRow m[k]) (by simp [hlt']) 0 _ rfl)
        rw [Nat.mul_one] at d0 e0
        rw [List.drop_eq_getElem_cons hlt, List.drop_eq_getElem_cons hlt'] at hrel
        have HR := Lib.hid hrel
        clear hrel hc hc'
        generalize l[k] = x at *
        generalize m[k] = y at *
        by_cases heq : x = y
        · have HEQ := Lib.hid heq
          have t1 := str_yes heq
          clear heq
          go_wp2_with fail
          go_quiet (fail)
          go_wp2_with fail
          go_roundw
          case rel => exact ⟨k + 1, by omega, by go_num, by rw [HR.out, HEQ.out]; simp, below_drewN hbel _⟩
          case measure => simp [intOf]; omega
        · have HEQ := Lib.hid heq
          have t1 := str_no heq
          clear heq
          go_wp2_with fail
          go_quiet (fail)
          go_wp2_with fail
          go_ret
          exact retB (by rw [HR.out]; simp [HEQ.out]) (below_drewN hbel _)
      · have HR := Lib.hid hrel
        clear hrel
        go_wp2_with fail
        go_ret
        exact retB (by rw [HR.out, List.drop_eq_nil_of_le (by omega), List.drop_eq_nil_of_le (by have := HLM.out; omega)]; rfl) hbel
  · have t0 : ((l.length : Int) != (m.length : Int)) = true := by simp; omega
    have HLM := Lib.hid hlm
    clear hlm
    go_enter Try.func36, Try.ntmps36
    go_wp2_with fail
    go_ret
    exact retB (by symm; exact decide_eq_false fun h => HLM.out (by rw [h])) (Below.refl _ _)

end Go.Proofs.Ytnlfhncbnfmccaa.Sc
