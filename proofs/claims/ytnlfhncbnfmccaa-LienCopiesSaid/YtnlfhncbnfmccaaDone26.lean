/- A deed at both: done. -/
import Derived.Test.YtnlfhncbnfmccaaEq26
import Derived.Test.YtnlfhncbnfmccaaRefPayB26
namespace Go.Proofs.Ytnlfhncbnfmccaa.Sc
open Go Go.RowKit Go.ChangeShapes Go.WideShapes Go.ChangeAt
set_option maxRecDepth 100000

def Lx (w : World) (F : Nat → Prop) (bk bm : Nat) (l : List Pg) : Prop := ∃ es, LnAt w F bk bm (ofT l) l.length es
theorem Lx.below {w w' : World} {F : Nat → Prop} {bk bm : Nat} {l : List Pg} (h : Lx w F bk bm l) (k : Below w.heap.size w w') : Lx w' F bk bm l := by
  obtain ⟨es, h⟩ := h
  exact ⟨es, h.below k⟩
theorem Lx.keep {w w' : World} {F G : Nat → Prop} {bk bm : Nat} {l : List Pg} (h : Lx w F bk bm l) (k : Keep G w w') (hG : ∀ b, F b → ¬ G b) : Lx w' F bk bm l := by
  obtain ⟨es, h⟩ := h
  exact ⟨es, h.keep k hG⟩
theorem Lx.lt {w : World} {F : Nat → Prop} {bk bm : Nat} {l : List Pg} (h : Lx w F bk bm l) : ∀ k, F k → k < w.heap.size := by
  obtain ⟨es, h⟩ := h
  exact h.lt
/-- What a call that turns liens hands back, told of the whole row. -/
def LxP (w : World) (F : Nat → Prop) (bk bm : Nat) (l : List Pg) (v : Value) (e : Ending) (w' : World) : Prop := ∃ F', e = .returned v ∧ Lx w' F' bk bm l ∧ (∀ k, F' k → F k ∨ w.heap.size ≤ k) ∧ Keep F w w'
theorem pledgeX_any {w : World} {F : Nat → Prop} {bk bm : Nat} {l : List Pg} (h : Lx w F bk bm l) (p : Pg) (hl : l.length ≤ 4000) : Calls Try.prog 24 #[.pointer (some ⟨bk, 0, none⟩), .agg p.cells] w (LxP w F bk bm (pledgeL l p) (.int .i64 (pledgeC l p))) := by
  obtain ⟨es, h⟩ := h
  refine (pledge_any h p (by omega) (fun t => ofT_le l t)).mono ?_
  rintro e w' ⟨F', es', h1, h2, h3, h4⟩
  rw [pledge_rows, pledge_num] at h2
  exact ⟨F', h1, ⟨es', h2⟩, h3, h4⟩
theorem releaseX_any {w : World} {F : Nat → Prop} {bk bm : Nat} {l : List Pg} (h : Lx w F bk bm l) (t c : ByteArray) (hl : l.length ≤ 4000) : Calls Try.prog 17 #[.pointer (some ⟨bk, 0, none⟩), .string t, .string c] w (LxP w F bk bm (relL l t c) (.int .i64 (relC l t c))) := by
  obtain ⟨es, h⟩ := h
  refine (release_any h t c (by omega) (ofT_le l t)).mono ?_
  rintro e w' ⟨F', es', h1, h2, h3, h4⟩
  rw [rel_rows, rel_count] at h2
  rw [rel_code] at h1
  exact ⟨F', h1, ⟨es', h2⟩, h3, h4⟩
def PayXP (w : World) (F : Nat → Prop) (bk bm : Nat) (l : List Pg) (t : ByteArray) (s : Int) (e : Ending) (w' : World) : Prop :=
  ∃ F' v, e = .returned (.tuple #[v, .int .i64 (payS (rankOf (ofT l t)) s), .int .i64 0]) ∧ Lx w' F' bk bm (paidL l t (payE (rankOf (ofT l t)) s)) ∧ (∀ k, F' k → F k ∨ w.heap.size ≤ k) ∧ Keep F w w' ∧ Sl w' 3 v ((payE (rankOf (ofT l t)) s).map entRow)
theorem own_entsD {w : World} {B n : Nat} {v : Value} {l : List (ByteArray × Int)} (h : w.ownsRow B 35 3 v n (entCells l)) (hn : n = l.length) : Sl w 3 v (l.map entRow) := own_ents h hn
theorem payX_any {w : World} {F : Nat → Prop} {bk bm : Nat} {l : List Pg} (h : Lx w F bk bm l) (hok : LnOk l) (t : ByteArray) (s : Int) (hs : badS s = false) (hl : l.length ≤ 39) (hne : ¬ ofT l t = []) :
    Calls Try.prog 14 #[.pointer (some ⟨bk, 0, none⟩), .string t, .int .i64 s] w (PayXP w F bk bm l t s) := by
  obtain ⟨es, h⟩ := h
  have h20 := ofT_le l t
  have hs' := badS_no hs
  have hg := got_ok hok t hs'.1
  refine (pay_any h t s hs' (by omega) h20 (by omega) hne (fun x hx => ⟨(hok.fit x (ofT_mem.1 hx).1).2.1, (hok.fit x (ofT_mem.1 hx).1).2.2.1⟩) (cred_nodup hok t)).mono ?_
  rintro e w' ⟨F', es', v, h1, h2, h3, h4, h5⟩
  have hsub : ∀ x ∈ ofT l t, 0 ≤ x.amt - gotC (payE (rankOf (ofT l t)) s) x.cred := fun x hx => by have := hg x hx; omega
  rw [paid_rows l t _ hsub, paid_count l t _ hsub] at h2
  exact ⟨F', v, h1, ⟨es', h2⟩, h3, h4, own_ents h5 rfl⟩
theorem payBad_any (bk : Nat) (t : ByteArray) (s : Int) (w : World) (hs : badS s = true) : Calls Try.prog 14 #[.pointer (some ⟨bk, 0, none⟩), .string t, .int .i64 s] w (fun e w' => e = .returned (.tuple #[.slice none 0 0, .int .i64 0, .int .i64 1]) ∧ Below w.heap.size w w') := by
  by_cases h0 : s < 0
  · have t1 : decide (s < 0) = true := decide_eq_true h0
    clear hs h0
    go_enter Try.func14, Try.ntmps14
    go_wp2_with fail
    go_ret3
    exact ⟨rfl, Below.refl _ _⟩
  · have t1 : decide (s < 0) = false := decide_eq_false h0
    have t2 : decide (1099511627776 < s) = true := by rw [badS, t1, Bool.false_or] at hs; exact hs
    clear hs h0
    go_enter Try.func14, Try.ntmps14
    go_wp2_with fail
    go_ret3
    exact ⟨rfl, Below.refl _ _⟩
theorem payNone_any {w : World} {F : Nat → Prop} {bk bm : Nat} {l : List Pg} (h : Lx w F bk bm l) (t : ByteArray) (s : Int) (hs : badS s = false) (he : ofT l t = []) : Calls Try.prog 14 #[.pointer (some ⟨bk, 0, none⟩), .string t, .int .i64 s] w (fun e w' => e = .returned (.tuple #[.slice none 0 0, .int .i64 0, .int .i64 4]) ∧ Below w.heap.size w w') := by
  obtain ⟨es, h⟩ := h
  have HF := Lib.hid (free_any h t)
  rw [he, decide_eq_true (show ([] : List Pg).length = 0 from rfl)] at HF
  have hs' := badS_no hs
  have t1 : decide (s < 0) = false := decide_eq_false (by omega)
  have t2 : decide (1099511627776 < s) = false := decide_eq_false (by omega)
  clear h hs hs' he
  go_enter Try.func14, Try.ntmps14
  go_wp2_with (first
    | ((with_reducible refine HF.out.mono ?_); rintro e w1 ⟨rfl, hb1⟩; have HB1 := Lib.hid hb1; clear hb1)
    | fail)
  go_ret3
  exact ⟨rfl, HB1.out⟩
theorem sl_keepP {w w' : World} {F : Nat → Prop} {v : Value} {l : List Pg} (h : Sl w 6 v (l.map Pg.row)) (k : Keep F w w') (hoff : Off F v ∨ l = []) : Sl w' 6 v (l.map Pg.row) := by
  rcases hoff with h1 | rfl
  · exact h.keep k h1
  · rcases h with ⟨_, a, c, rfl, hn⟩ | ⟨b, off, cap, rfl, _⟩
    · exact .inl ⟨rfl, a, c, rfl, hn⟩
    · exact .inl ⟨rfl, _, _, rfl, fun h => by cases h⟩
theorem off_more {w : World} {F F' : Nat → Prop} {v : Value} {l : List Pg} (h : Sl w 6 v (l.map Pg.row)) (hoff : Off F v ∨ l = []) (hF : ∀ k, F' k → F k ∨ w.heap.size ≤ k) : Off F' v ∨ l = [] := by
  rcases hoff with h1 | h1
  · rcases Decidable.em (l = []) with h0 | h0
    · exact .inr h0
    · have h2 := Sl.off_old (F := fun b => w.heap.size ≤ b) h (by simpa using h0) (fun b hb hx => by omega)
      exact .inl fun b hb hx => (hF b hx).elim (h1 b hb) (h2 b hb)
  · exact .inr h1
def DdBox (w : World) (b : Nat) (d : Dd) : Prop :=
  w.cell? ⟨b, 0, none⟩ = some (.int .u8 d.kind) ∧ w.cell? ⟨b, 1, none⟩ = some (.string d.p.thing) ∧ w.cell? ⟨b, 2, none⟩ = some (.string d.p.debtor) ∧ w.cell? ⟨b, 3, none⟩ = some (.string d.p.cred) ∧ w.cell? ⟨b, 4, none⟩ = some (.int .i64 d.p.day) ∧ w.cell? ⟨b, 5, none⟩ = some (.int .i64 d.p.amt) ∧ w.cell? ⟨b, 6, none⟩ = some (.bool d.p.held) ∧ w.cell? ⟨b, 7, none⟩ = some (.int .i64 d.sum)
theorem ddBox_of {w : World} {b : Nat} {d : Dd} {T : TypeId} (h : w.heap[b]? = some (.cells d.cells T (0, 0))) : DdBox w b d := ⟨cell_blk h 0, cell_blk h 1, cell_blk h 2, cell_blk h 3, cell_blk h 4, cell_blk h 5, cell_blk h 6, cell_blk h 7⟩
theorem off_or {F O : Nat → Prop} {v : Value} {l : List Pg} (h : Off F v ∨ l = []) (k : Off O v ∨ l = []) : Off (fun b => F b ∨ O b) v ∨ l = [] := by
  rcases h with h | h
  · rcases k with k | k
    · exact .inl fun b hb hx => hx.elim (h b hb) (k b hb)
    · exact .inr k
  · exact .inr h
theorem off_l {F O : Nat → Prop} {v : Value} {l : List Pg} (h : Off (fun b => F b ∨ O b) v ∨ l = []) : Off F v ∨ l = [] := h.imp (fun h b hb hx => h b hb (.inl hx)) id
theorem off_r {F O : Nat → Prop} {v : Value} {l : List Pg} (h : Off (fun b => F b ∨ O b) v ∨ l = []) : Off O v ∨ l = [] := h.imp (fun h b hb hx => h b hb (.inr hx)) id
/-- O: blocks that the list keeps off, too. -/
def DoneP (w : World) (F : Nat → Prop) (bk bm : Nat) (O : Nat → Prop) (l : List Pg) (e : Ending) (w' : World) : Prop :=
  ∃ F' v, e = .returned (.tuple #[v, .bool true]) ∧ Lx w' F' bk bm l ∧ Sl w' 6 v (l.map Pg.row) ∧ (Off F' v ∨ l = []) ∧ (Off O v ∨ l = []) ∧ (∀ k, F' k → F k ∨ w.heap.size ≤ k) ∧ Keep F w w'
end Go.Proofs.Ytnlfhncbnfmccaa.Sc
