/- The program's chain: New, Begin, As, Now. -/
import Derived.Test.YtmjblefjaccocaaChain
import Derived.Test.YtmjblefjaccocaaOrd
namespace Go.Proofs.Ytmjblefjaccocaa.Sc
open Go Go.RowKit Go.ChangeShapes Go.WideShapes Go.ChangeAt Mp

theorem zeroHs (w : World) : (zeroValue 22).run Try.prog w = .ok (.slice none 0 0) w := by kernel_rfl
theorem sl_strs (w : World) (l : List ByteArray) (n : Nat) (hn : l.length = n) (hm : n ≤ maxLen) : Sl (w.alloc (.cells (l.map Value.string).toArray 9)) 1 (.slice (some ⟨w.heap.size, 0, none⟩) n n) (l.map stRow) := by
  subst hn
  refine .inr ⟨w.heap.size, 0, l.length, by simp, by simp, by simp, hm, fun i r hr j u hu => ?_⟩
  rw [cell_new]
  simp only [List.getElem?_map, Option.map_eq_some_iff] at hr
  obtain ⟨s, hs, rfl⟩ := hr
  cases j with
  | zero =>
    obtain rfl : Value.string s = u := by simpa [stRow] using hu
    simp [hs]
  | succ j => simp [stRow] at hu

/-- What was done, behind a call's answer. -/
def doneB (e : Int) (done : List Hd) (h : Hd) : List Hd := if e = 0 then done ++ [h] else done
theorem new_any (w : World) : Calls Try.prog 28 #[] w fun e w' => ∃ p, e = .returned p ∧ Below w.heap.size w w' ∧ ∃ F, Chain w' F p [] ∧ ∀ b, F b → w.heap.size ≤ b := by
  have hmm := @run_makeMap Try.prog
  go_enter Try.func28, Try.ntmps28
  go_wp2_with fail
  go_ret
  refine ⟨_, rfl, ((Below.refl _ _).alloc (Nat.le_refl _) _).alloc (by simp) _, fun b => b = w.heap.size ∨ b = w.heap.size + 1, ⟨w.heap.size + 1, w.heap.size, [], rfl, ⟨?_, ?_, ⟨.inr rfl, .inl rfl⟩, ?_, ?_, ?_, Nat.le_refl _, ?_⟩⟩, ?_⟩
  · have := heap_alloc_new (w.alloc (.map #[] 0)) (.cells #[.map (some w.heap.size)] 62)
    simpa using this
  · exact (MapAt.made w).same (by rw [MapKept.heap_alloc _ _ |>.2 _ (by simp)])
  · intro k v h; cases h
  · intro k h; exact absurd rfl h
  · intro k v k' v' h; cases h
  · rintro b (rfl | rfl) <;> simp <;> omega
  · rintro b (rfl | rfl)
    · exact Nat.le_refl _
    · omega

theorem has_of {w : World} {F : Nat → Prop} {v : Value} {done : List Hd} {box : ByteArray} (h : Hist w F v (ownOf done box)) : has done box = true := decide_eq_true h.2.1
theorem has_not {done : List Hd} {box : ByteArray} (h : ownOf done box = []) : has done box = false := by simp [has, h]
theorem begin_no {w w1 : World} {F : Nat → Prop} {bp bm : Nat} {l : Ents} {done : List Hd} {h : Hd} {n E : Int} (hc : Ch w F bp bm l done) (hb : Below w.heap.size w w1) (hn : n = E ∧ n ≠ 0) :
    After w F E (.pointer (some ⟨bp, 0, none⟩)) (doneB E done h) (.returned (.int .i64 n)) w1 := by
  obtain ⟨rfl, h0⟩ := hn
  rw [doneB, if_neg h0]
  exact after_same ⟨bp, bm, l, rfl, hc⟩ hb rfl
theorem beginE_of {box who place : ByteArray} {d : Int} {there : Bool} {n : Nat} {a b : Bool} {k : Int} (h1 : [box, who, place].all nameOk = a) (h2 : dayOk d = b) (hn : ¬ 4096 ≤ n)
    (hk : k = if a = true then (if b = true then (if there = true then 5 else 0) else 3) else 1) : k = beginE there n box who place d := by
  have e : [box, who, place].all nameOk = (nameOk box && (nameOk who && nameOk place)) := by simp
  rw [e] at h1
  subst h1 h2 hk
  unfold beginE
  cases nameOk box <;> cases nameOk who <;> cases nameOk place <;> cases dayOk d <;> cases there <;> simp [hn]
theorem begin_yes {w w1 w2 : World} {F : Nat → Prop} {bp bm : Nat} {l : Ents} {done : List Hd} {box who place : ByteArray} {d n E : Int} (hb : Below w.heap.size w w1) (hc : Ch w1 F bp bm l done)
    (ho : ownOf done box = []) (hn : n = E) (h0 : n = 0)
    (hm : MapAt w2 bm (mput l box (.slice (some ⟨w1.heap.size, 0, none⟩) 1 1))) (hg2 : (w1.alloc (.cells #[.string box, .string ⟨#[]⟩, .string who, .string place, .int .i64 d] 41)).grownBy w2 (some bm)) :
    After w F E (.pointer (some ⟨bp, 0, none⟩)) (doneB E done ⟨box, ⟨#[]⟩, who, place, d⟩) (.returned (.int .i64 n)) w2 := by
  subst hn
  rw [doneB, if_pos h0]
  have hbm := hc.map.lt
  obtain ⟨k, F', h1, h2⟩ := ch_put (h := ⟨box, ⟨#[]⟩, who, place, d⟩) (v' := .slice (some ⟨w1.heap.size, 0, none⟩) 1 1) hc
    ((Keep.alloc _ w1 _).trans (Keep.of_grown hg2) (fun i hi e => .inl (Option.some.inj e).symm))
    (by
      refine ownsRow_keep (F := fun k => some bm = some k) (w := w1.alloc (.cells #[.string box, .string ⟨#[]⟩, .string who, .string place, .int .i64 d] 41)) ?_ (Keep.of_grown hg2) ?_
      · exact ⟨by simp [ho, hdCells, Hd.row], .inr ⟨w1.heap.size, 1, _, by simp [ho], Nat.zero_le _, heap_alloc_new w1 _, by simp [ho], by simp [maxLen], rfl, by simp [ho, hdCells, Hd.row]⟩⟩
      · intro b hb e
        obtain rfl : w1.heap.size = b := Option.some.inj hb
        simp at e
        omega)
    ⟨w1.heap.size, rfl, .inl (Nat.le_refl _)⟩ hm
  refine ⟨rfl, (Keep.of_below (F := F) hb).trans k (fun _ _ h => h), F', ⟨bp, bm, _, rfl, h1⟩, fun b hF => (h2 b hF).imp id (fun h => Nat.le_trans hb.size h)⟩

set_option maxRecDepth 5000 in
set_option maxHeartbeats 4000000 in
theorem begin_any (box who place : ByteArray) (d : Int) (p : Value) (done : List Hd) (F : Nat → Prop) (w : World) (hc : Chain w F p done) (hlen : done.length ≤ 4000) :
    Calls Try.prog 22 #[p, .string box, .string who, .string place, .int .i64 d] w
      (After w F (beginE (has done box) (boxesS done).length box who place d) p (doneB (beginE (has done box) (boxesS done).length box who place d) done ⟨box, ⟨#[]⟩, who, place, d⟩)) := by
  obtain ⟨bp, bm, l, rfl, hch⟩ := hc
  have HCW := Lib.hid hch
  have hll : l.length ≤ 4000 := by have := hch.few; omega
  have t5 : decide (4096 ≤ l.length) = false := decide_eq_false (by omega)
  have t6 : decide ((4096 : Int) ≤ (l.length : Int)) = false := decide_eq_false (by omega)
  have HN : Hid (¬ 4096 ≤ (boxesS done).length) := Lib.hid (by have := boxesS_len done; omega)
  have HSN : Hid (Sl (w.alloc (.cells #[.string box, .string who, .string place] 9)) 1 (.slice (some ⟨w.heap.size, 0, none⟩) 3 3) ([box, who, place].map stRow)) := Lib.hid (sl_strs w [box, who, place] 3 rfl (by simp [maxLen]))
  have HC := Lib.hid (hch.below (one_below w (.cells #[.string box, .string who, .string place] 9)))
  have HBEL := Lib.hid (one_below w (.cells #[.string box, .string who, .string place] 9))
  clear hch hll hlen
  generalize hE : beginE (has done box) (boxesS done).length box who place d = E
  have HE := Lib.hid hE
  clear hE
  cases hnm : [box, who, place].all nameOk <;> cases hdy : dayOk d
  all_goals
    have HNM := Lib.hid hnm
    have HDY := Lib.hid hdy
    rcases mget_has HCW.out box with ⟨v, hg, hh⟩ | ⟨hg, hh⟩
  all_goals
    have HG := Lib.hid hg
    have HH := Lib.hid hh
    first | have HT := Lib.hid (has_of hh) | have HT := Lib.hid (has_not hh)
    clear hg hh
    have q60 := run_eql_nilmap Try.underlying60
    go_enter Try.func22, Try.ntmps22
    go_wp2_with (first
      | ((with_reducible refine (areNames_any _ _ _ HSN.out).mono ?_); rintro e w1 ⟨rfl, hb1⟩; have HC := Lib.hid (HC.out.below hb1); have HBEL := Lib.hid (HBEL.out.trans (hb1.mono HBEL.out.size)); have c0 := cell_blk HC.out.ptr 0; simp only [List.getElem?_toArray, List.getElem?_cons_zero] at c0; clear hb1)
      | ((with_reducible refine (isDay_any _ _).mono ?_); rintro e w1 ⟨rfl, hb1⟩; have HC := Lib.hid (HC.out.below hb1); have HBEL := Lib.hid (HBEL.out.trans (hb1.mono HBEL.out.size)); have c0 := cell_blk HC.out.ptr 0; simp only [List.getElem?_toArray, List.getElem?_cons_zero] at c0; clear hb1)
      | ((with_reducible refine Mp.wpl_got ?_ ?_ ?_ Try.underlying60 Try.underlying9 (zeroHs _) HC.out.map HG.out ?_); rfl; rfl; rfl)
      | ((with_reducible refine Mp.wpl_miss ?_ ?_ ?_ Try.underlying60 Try.underlying9 (zeroHs _) HC.out.map HG.out ?_); rfl; rfl; rfl)
      | ((with_reducible refine Mp.wpl_len ?_ ?_ Try.underlying60 HC.out.map ?_); rfl; rfl)
      | ((with_reducible refine Mp.wpl_update (b := bm) (l := l) (key := box) (v := .slice (some ⟨w1.heap.size, 0, none⟩) 1 1) ?_ ?_ ?_ ?_ Try.underlying60 Try.underlying9 ?_ ?_); rfl; rfl; rfl; rfl; exact (Ch.below HC.out (one_below w1 (.cells #[.string box, .string ⟨#[]⟩, .string who, .string place, .int .i64 d] 41))).map; intro w2 hm2 hg2 hs2)
      | fail)
    go_ret
    first
      | exact begin_no HCW.out HBEL.out ⟨by rw [← HE.out]; exact beginE_of HNM.out HDY.out HN.out (by simp [HT.out]), by decide⟩
      | exact begin_yes HBEL.out HC.out HH.out (by rw [← HE.out]; exact beginE_of HNM.out HDY.out HN.out (by simp [HT.out])) rfl hm2 hg2
end Go.Proofs.Ytmjblefjaccocaa.Sc
