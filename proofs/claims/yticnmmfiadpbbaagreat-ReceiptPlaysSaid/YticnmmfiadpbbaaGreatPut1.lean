/- Put of the reference: a text more in a rising row; Texts. -/
import Derived.Test.YticnmmfiadpbbaaGreatStrRows
namespace Go.Proofs.YticnmmfiadpbbaaGreat.Sc
open Go Go.RowKit Go.ChangeShapes Go.WideShapes Go.ChangeAt
set_option maxRecDepth 100000

/-- The lesser of two texts comes first. -/
def strLe (a b : ByteArray) : Bool := Op.bytesLess a.toList b.toList || a.toList == b.toList
/-- A text more in a rising row, each once. -/
def putR : List ByteArray → ByteArray → Bool → List ByteArray
  | [], s, done => if done then [] else [s]
  | x :: r, s, done => (if !done && strLe s x then [s] else []) ++ ((if x = s then [] else [x]) ++ putR r s (done || strLe s x))
def putS (l : List ByteArray) (s : ByteArray) : List ByteArray := putR l s false
theorem putR_len : ∀ (l : List ByteArray) (s : ByteArray) (d : Bool), (putR l s d).length ≤ l.length + (if d then 0 else 1)
  | [], s, d => by cases d <;> simp [putR]
  | x :: r, s, d => by
    have := putR_len r s (d || strLe s x)
    simp only [putR, List.length_append, List.length_cons]
    cases d <;> cases hx : strLe s x <;> simp [hx] at this ⊢ <;> split <;> simp <;> omega
theorem putS_len (l : List ByteArray) (s : ByteArray) : (putS l s).length ≤ l.length + 1 := putR_len l s false

theorem push_below {w wr w1 : World} {e : TypeId} {sz n : Nat} {v : Value} {xs : List Value} (hbel : Below w.heap.size w wr) (hown : wr.ownsRow w.heap.size e sz v n xs) (hg : wr.grownBy w1 v.ownBlock) : Below w.heap.size w w1 :=
  hbel.grown hg hbel.size (fun k hk => (hown.lt k hk).1)
set_option maxRecDepth 5000 in
set_option maxHeartbeats 2000000 in
theorem refPut_any (l : List ByteArray) (s : ByteArray) (v : Value) (w : World) (hs : Sl w 1 v (l.map stRow)) (hlen : l.length ≤ 1000000) :
    Calls Tryz.prog 96 #[v, .string s] w (RetRow w 9 1 (putS l s).length (strCells (putS l s))) := by
  have hml : l.length ≤ 9223372036854775807 := by omega
  obtain ⟨a, c, rfl⟩ : ∃ a c, v = .slice a l.length c := by simpa using hs.shape
  have HSL := Lib.hid hs
  have HLEN := Lib.hid hlen
  clear hs hlen
  obtain ⟨i0, hi, hz, hsz, hby⟩ := info_parts infoStr
  have HI := Lib.hid (And.intro hi (And.intro hz (And.intro hsz hby)))
  clear hi hz hsz hby
  go_enter Tryz.func96, Tryz.ntmps96
  go_wp2_with fail
  go_loopw [5, 6, 7] (fun o d i wr => ∃ (k : Nat) (out : List ByteArray) (done : Bool), k ≤ l.length ∧ i = .int .i64 k ∧ d = .bool done ∧ wr.ownsRow w.heap.size 9 1 o out.length (strCells out) ∧ Below w.heap.size w wr ∧ putS l s = out ++ putR (l.drop k) s done ∧ out.length ≤ 2 * k) (fun _ _ i _ => l.length - (intOf i).toNat)
  case atStart => exact ⟨0, [], false, Nat.zero_le _, rfl, rfl, World.ownsRow_made w #[] 0 (Nat.le_refl _) (by simp [maxLen]) rfl, one_below _ _, rfl, by simp⟩
  case round =>
    obtain ⟨k, out, done, hk, rfl, rfl, hown, hbel, hput, hol⟩ := hrel
    have HOWN := Lib.hid hown
    have HPUT := Lib.hid hput
    clear hown hput
    have HLL : Hid (out.length + 1 + 1 ≤ maxLen ∧ (out.length + 1 + 1) * 16 ≤ 140737488355328) := Lib.hid (by
      have h3 := HLEN.out
      simp only [maxLen]
      omega)
    have HL : Hid (out.length + 1 ≤ maxLen ∧ (out.length + 1) * 16 ≤ 140737488355328 ∧ w.heap.size ≤ wr.heap.size) := Lib.hid (by
      have h3 := HLEN.out
      have h4 := hbel.size
      simp only [maxLen]
      omega)
    by_cases hlt : k < l.length
    · obtain ⟨b, off, rfl, -, hb, hc⟩ := HSL.out.at (i := k) (by simpa using hlt)
      have hr := hc k (stRow l[k]) (by simp [hlt])
      have d0 := (hbel.cell (p := ⟨b, off + k * 1, none⟩) hb).trans (hr 0 _ rfl)
      rw [Nat.mul_one] at d0
      have HD : Hid (putR (l.drop k) s done = (if !done && strLe s l[k] then [s] else []) ++ ((if l[k] = s then [] else [l[k]]) ++ putR (l.drop (k + 1)) s (done || strLe s l[k]))) := Lib.hid (by rw [List.drop_eq_getElem_cons hlt]; rfl)
      have HR : Hid (w.cell? ⟨b, off + k, none⟩ = some (.string l[k])) := Lib.hid (by have := hr 0 _ rfl; rwa [Nat.mul_one] at this)
      clear hr hc
      generalize l[k] = x at *
      have HLE : Hid (strLe s x = (Op.bytesLess s.toList x.toList || s.toList == x.toList)) := Lib.hid rfl
      by_cases heq : x = s
      all_goals
        first | (have t1 := str_yes heq; have HEQ := Lib.hid heq; clear heq) | (have t1 := str_no heq; have HEQ := Lib.hid heq; clear heq)
        cases done
        all_goals
          cases hle : (Op.bytesLess s.toList x.toList || s.toList == x.toList)
          all_goals
            rw [hle] at HLE
            go_wp2_with (first
              | (((with_reducible refine Any.wpl_push ?_ ?_ ?_ Tryz.underlying27 HI.out.1 HI.out.2.1 HI.out.2.2.1 HI.out.2.2.2 ?_ (by decide) ?_ (str_one _) (HOWN.out) HL.out.1 HL.out.2.1 HL.out.2.2 ?_); rfl; rfl; rfl; rfl; rfl; intro v1 w1 hown1 hgrow1 hwho1); have hb1 := push_below hbel HOWN.out hgrow1; have HOWN1 := Lib.hid hown1; clear hown1 hgrow1 hwho1; have d1 := (hb1.cell (p := ⟨b, off + k, none⟩) hb).trans HR.out;
                 have HL1 : Hid (out.length + 1 + 1 ≤ maxLen ∧ (out.length + 1 + 1) * 16 ≤ 140737488355328 ∧ w.heap.size ≤ w1.heap.size) := Lib.hid ⟨HLL.out.1, HLL.out.2, hb1.size⟩)
              | (((with_reducible refine Any.wpl_push ?_ ?_ ?_ Tryz.underlying27 HI.out.1 HI.out.2.1 HI.out.2.2.1 HI.out.2.2.2 ?_ (by decide) ?_ (str_one _) (HOWN1.out) HL1.out.1 HL1.out.2.1 HL1.out.2.2 ?_); rfl; rfl; rfl; rfl; rfl; intro v2 w2 hown2 hgrow2 hwho2); have hb2 := push_below hb1 HOWN1.out hgrow2; have HOWN2 := Lib.hid hown2; clear hown2 hgrow2 hwho2) | fail)
            go_roundw
            case rel =>
              first
                | exact ⟨k + 1, out ++ [s] ++ [x], true, by omega, by go_num, rfl, by have := HOWN2.out; simpa [strCells] using this, hb2, by rw [HPUT.out, HD.out, HLE.out, if_neg HEQ.out]; simp, by simp; omega⟩
                | exact ⟨k + 1, out ++ [s], true, by omega, by go_num, rfl, by have := HOWN1.out; simpa [strCells] using this, hb1, by rw [HPUT.out, HD.out, HLE.out, if_pos HEQ.out]; simp, by simp; omega⟩
                | exact ⟨k + 1, out ++ [x], _, by omega, by go_num, rfl, by have := HOWN1.out; simpa [strCells] using this, hb1, by rw [HPUT.out, HD.out, HLE.out, if_neg HEQ.out]; simp, by simp; omega⟩
                | exact ⟨k + 1, out, _, by omega, by go_num, rfl, HOWN.out, hbel, by rw [HPUT.out, HD.out, HLE.out, if_pos HEQ.out]; simp, by omega⟩
            case measure => simp [intOf]; omega
    · have HD : Hid (putR (l.drop k) s done = if done then [] else [s]) := Lib.hid (by rw [List.drop_eq_nil_of_le (by omega)]; rfl)
      cases done
      all_goals
        go_wp2_with (first | (((with_reducible refine Any.wpl_push ?_ ?_ ?_ Tryz.underlying27 HI.out.1 HI.out.2.1 HI.out.2.2.1 HI.out.2.2.2 ?_ (by decide) ?_ (str_one _) (HOWN.out) HL.out.1 HL.out.2.1 HL.out.2.2 ?_); rfl; rfl; rfl; rfl; rfl; intro v1 w1 hown1 hgrow1 hwho1); have hb1 := push_below hbel HOWN.out hgrow1; have HOWN1 := Lib.hid hown1; clear hown1 hgrow1 hwho1) | fail)
        go_ret
        first
          | exact retRow (B := w.heap.size) (by have := HOWN1.out; rw [HPUT.out, HD.out]; simpa [strCells] using this) (Nat.le_refl _) hb1
          | exact retRow (B := w.heap.size) (by have := HOWN.out; rw [HPUT.out, HD.out]; simpa using this) (Nat.le_refl _) hbel
end Go.Proofs.YticnmmfiadpbbaaGreat.Sc
