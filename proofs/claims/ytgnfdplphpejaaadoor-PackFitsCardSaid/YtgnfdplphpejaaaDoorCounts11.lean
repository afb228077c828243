/- How many pieces of each good there are: the program's map. -/
import Derived.Test.YtgnfdplphpejaaaDoorSum11
import Derived.Test.YtgnfdplphpejaaaDoorFew11
namespace Go.Proofs.YtgnfdplphpejaaaDoor.Sc
open Go Go.RowKit Go.ChangeShapes Go.WideShapes Go.ChangeAt
set_option maxRecDepth 100000

/-- The entries tell how many there are. -/
def CntOf (es : Mp.Ents) (l : List Lt) : Prop := ∀ n, Mp.mget es n = if 0 < posTot l n then some (.int .i64 (posTot l n)) else none
theorem cntOf_nil : CntOf [] [] := fun n => by simp [Mp.mget, posTot]
theorem posTot_snoc (l : List Lt) (x : Lt) (n : ByteArray) : posTot (l ++ [x]) n = posTot l n + if x.good = n ∧ 0 < x.cnt then x.cnt else 0 := by
  rw [posTot_append]; simp [posTot]
theorem cntOf_skip {es : Mp.Ents} {l : List Lt} {x : Lt} (h : CntOf es l) (hx : ¬ 0 < x.cnt) : CntOf es (l ++ [x]) := fun n => by
  have e : posTot (l ++ [x]) n = posTot l n := by rw [posTot_snoc, if_neg (fun h => hx h.2), Int.add_zero]
  rw [e]
  exact h n
theorem cntOf_put {es : Mp.Ents} {l : List Lt} {x : Lt} (h : CntOf es l) (hx : 0 < x.cnt) : CntOf (Mp.mput es x.good (.int .i64 (posTot l x.good + x.cnt))) (l ++ [x]) := fun n => by
  have h0 := posTot_nonneg l n
  by_cases hn : x.good = n
  · subst hn
    have e : posTot (l ++ [x]) x.good = posTot l x.good + x.cnt := by rw [posTot_snoc, if_pos ⟨rfl, hx⟩]
    rw [Mp.mget_mput_same, e, if_pos (by omega)]
  · have e : posTot (l ++ [x]) n = posTot l n := by rw [posTot_snoc, if_neg (fun h => hn h.1), Int.add_zero]
    rw [Mp.mget_mput_other _ _ (fun e => hn e.symm), e]
    exact h n
theorem cntOf_old {es : Mp.Ents} {l : List Lt} (h : CntOf es l) (n : ByteArray) : (Mp.mget es n).getD (.int .i64 0) = .int .i64 (posTot l n) := by
  rw [h n]
  split
  · rfl
  · have := posTot_nonneg l n
    have : posTot l n = 0 := by omega
    rw [this]; rfl
theorem posTot_le {l : List Lt} (h : ∀ x ∈ l, x.cnt ≤ 1099511627776) (n : ByteArray) : posTot l n ≤ 1099511627776 * l.length := by
  induction l with
  | nil => simp [posTot]
  | cons x r ih =>
    have h1 := ih (fun y hy => h y (List.mem_cons_of_mem _ hy))
    have h2 := h x List.mem_cons_self
    simp only [posTot, List.length_cons]
    split <;> omega
/-- A new map of numbers. -/
def MapP (w : World) (l : List Lt) (e : Ending) (w' : World) : Prop := ∃ bm es, e = .returned (.map (some bm)) ∧ w.heap.size ≤ bm ∧ Mp.MapAt w' bm es ∧ CntOf es l ∧ es.length ≤ l.length ∧ Below w.heap.size w w'
theorem wrap_q {x : Int} (h : -9223372036854775808 ≤ x ∧ x ≤ 9223372036854775807) : wrap64 x = x := by unfold wrap64; omega
theorem zeroInt (w : World) : (zeroValue 3).run Tryd.prog w = .ok (.int .i64 0) w := by kernel_rfl
set_option maxHeartbeats 4000000 in
theorem counts_any (l : List Lt) (v : Value) (w : World) (hs : Sl w 2 v (l.map Lt.row)) (hl : l.length ≤ 4000) (hc : ∀ x ∈ l, x.cnt ≤ 1099511627776) :
    Calls Tryd.prog 55 #[v] w (MapP w l) := by
  obtain ⟨a, c, rfl⟩ : ∃ a c, v = .slice a l.length c := by simpa using hs.shape
  have hll : l.length ≤ 9223372036854775807 := by omega
  have HS := Lib.hid hs
  have HL := Lib.hid hl
  have HC := Lib.hid hc
  have tm : ∀ W : World, (Instr.makeMap 94 none).run Tryd.prog W = .ok (.map (some W.heap.size)) (W.alloc (.map #[] 0)) := fun W => by kernel_rfl
  have HM0 := Lib.hid (Mp.MapAt.made w)
  clear hs hl hc
  go_enter Tryd.func55, Tryd.ntmps55
  go_wp2_with fail
  obtain ⟨bm, hbm⟩ : ∃ b, b = w.heap.size := ⟨_, rfl⟩
  rw [← hbm] at HM0 ⊢
  have HBM : Hid (w.heap.size ≤ bm) := Lib.hid (by omega)
  clear hbm tm
  go_loopw [5, 9] (fun _ i wr => ∃ (k : Nat) (es : Mp.Ents), k ≤ l.length ∧ i = .int .i64 k ∧ Mp.MapAt wr bm es ∧ CntOf es (l.take k) ∧ es.length ≤ k ∧ Below w.heap.size w wr) (fun _ i _ => l.length - (intOf i).toNat)
  case atStart => exact ⟨0, [], Nat.zero_le _, rfl, HM0.out, cntOf_nil, Nat.le_refl _, one_below _ _⟩
  case round =>
    obtain ⟨k, es, hk, rfl, hm, hcn, hel, hbel⟩ := hrel
    have HBEL := Lib.hid hbel
    have HM := Lib.hid hm
    have HCN := Lib.hid hcn
    have HEL := Lib.hid hel
    by_cases hlt : k < l.length
    · obtain ⟨b, off, rfl, -, hb, hc⟩ := HS.out.at (i := k) (by simpa using hlt)
      have d0 := (hbel.cell (p := ⟨b, off + k * 2, none⟩) hb).trans (hc k l[k].row (by simp [hlt]) 0 _ rfl)
      have d1 := (hbel.cell (p := ⟨b, off + k * 2 + 1, none⟩) hb).trans (hc k l[k].row (by simp [hlt]) 1 _ rfl)
      have HTK : Hid (l.take (k + 1) = l.take k ++ [l[k]]) := Lib.hid (List.take_succ_eq_append_getElem hlt)
      have hx := HC.out l[k] (List.getElem_mem hlt)
      have hle := posTot_le (l := l.take k) (fun x hx => HC.out x (List.mem_of_mem_take hx)) l[k].good
      have h0 := posTot_nonneg (l.take k) l[k].good
      have hlk : ((l.take k).length : Int) ≤ 4000 := by have := HL.out; simp; omega
      generalize l[k] = x at *
      obtain ⟨xn, xc⟩ := x
      simp only at d0 d1 hx hle h0
      obtain ⟨O, hO⟩ : ∃ O, O = posTot (l.take k) xn := ⟨_, rfl⟩
      rw [← hO] at hle h0
      have HOO := Lib.hid hO
      have HGV : Hid ((Mp.mget es xn).getD (.int .i64 0) = .int .i64 O) := Lib.hid (by rw [hO]; exact cntOf_old hcn xn)
      have HB0 := Lib.hid (one_below wr (.cells #[.string xn, .int .i64 xc] 35))
      clear hc hbel hm hcn hO
      by_cases hp : 0 < xc
      · have tp : decide (0 < xc) = true := decide_eq_true hp
        have HNX : Hid (CntOf (Mp.mput es xn (.int .i64 (O + xc))) (l.take (k + 1))) := Lib.hid (by rw [HTK.out, HOO.out]; exact cntOf_put (x := ⟨xn, xc⟩) HCN.out hp)
        have eO : wrap64 (O + xc) = O + xc := wrap_q (by omega)
        clear hp
        go_wp2_with (first
          | ((with_reducible refine Mp.wpl_val (l := es) (key := xn) (v := .int .i64 O) ?_ ?_ ?_ Tryd.underlying94 Tryd.underlying9 (zeroInt _) (HM.out.same (Below.heap_alloc _ _ _ HM.out.lt)) HGV.out ?_); rfl; rfl; rfl)
          | ((with_reducible refine Mp.wpl_update (b := bm) (l := es) (key := xn) (v := .int .i64 (O + xc)) ?_ ?_ ?_ ?_ Tryd.underlying94 Tryd.underlying9 (HM.out.same (Below.heap_alloc _ _ _ HM.out.lt)) ?_); rfl; rfl; rfl; exact congrArg (Value.int .i64) eO; intro w5 hm5 hg5 hz5; have HM5 := Lib.hid hm5; have HG5 := Lib.hid hg5; clear hm5 hg5 hz5; go_frame)
          | fail)
        go_roundw
        case rel => exact ⟨k + 1, _, by omega, by go_num, HM5.out, HNX.out, by have := Mp.mput_length_le es xn (.int .i64 (O + xc)); have := HEL.out; omega, (HBEL.out.trans (HB0.out.mono HBEL.out.size)).grown HG5.out (Nat.le_trans HBEL.out.size HB0.out.size) (fun j hj => by obtain rfl : bm = j := Option.some.inj hj; exact HBM.out)⟩
        case measure => (simp [intOf]) <;> omega
      · have tp : decide (0 < xc) = false := decide_eq_false hp
        have HNX : Hid (CntOf es (l.take (k + 1))) := Lib.hid (by rw [HTK.out]; exact cntOf_skip HCN.out hp)
        clear hp
        go_wp2_with fail
        go_roundw
        case rel => exact ⟨k + 1, es, by omega, by go_num, HM.out.same (Below.heap_alloc _ _ _ HM.out.lt), HNX.out, by have := HEL.out; omega, HBEL.out.trans (HB0.out.mono HBEL.out.size)⟩
        case measure => (simp [intOf]) <;> omega
    · have HE : Hid (l.take k = l) := Lib.hid (List.take_of_length_le (by omega))
      have HKL : Hid (es.length ≤ l.length) := Lib.hid (by omega)
      clear hbel hm hcn hel
      go_wp2_with fail
      go_ret
      exact ⟨bm, es, rfl, HBM.out, HM.out, by have := HCN.out; rwa [HE.out] at this, HKL.out, HBEL.out⟩
end Go.Proofs.YtgnfdplphpejaaaDoor.Sc
