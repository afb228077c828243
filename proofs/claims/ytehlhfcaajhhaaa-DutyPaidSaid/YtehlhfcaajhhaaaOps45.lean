/- The calls of a bond: what they do, plainly; long; rows of calls as an argument. -/
import Derived.Test.YtehlhfcaajhhaaaEnterR45
import Derived.ChangeMaps5
namespace Go.Proofs.Ytehlhfcaajhhaaa.Sc
open Go Go.RowKit Go.ChangeShapes Go.WideShapes Go.ChangeAt
set_option maxRecDepth 100000

structure O5 where
  kind : Int
  day : Int
  box : ByteArray
  to : ByteArray
  n : Int
def O5.row (o : O5) : List Value := [.int .i64 o.kind, .int .i64 o.day, .string o.box, .string o.to, .int .i64 o.n]
structure O5.fit (o : O5) : Prop where
  box : o.box.size ≤ maxLen
  to : o.to.size ≤ maxLen
def stepC (L : Int) (l : List Bx) (o : O5) : Int :=
  if o.kind = 1 then enterC l L o.box o.n o.day else if o.kind = 2 then leaveC l o.box (rfRel o.n) else if o.kind = 3 then leaveC l o.box (rfTra o.to o.day) else if o.kind = 4 then leaveC l o.box rfExp else 0
def stepL (L : Int) (l : List Bx) (o : O5) : List Bx :=
  if o.kind = 1 then enterL l L o.box o.n o.day else if o.kind = 2 then leaveL l o.box 1 (rfRel o.n) else if o.kind = 3 then leaveL l o.box 2 (rfTra o.to o.day) else if o.kind = 4 then leaveL l o.box 2 rfExp else l
def playL (L : Int) (ops : List O5) : List Bx := ops.foldl (stepL L) []
theorem leaveL_len (l : List Bx) (n : ByteArray) (st : Int) (rf : Bx → Int) : (leaveL l n st rf).length = l.length := by
  unfold leaveL
  split
  · simp [setSt]
  · rfl
theorem enterL_len (l : List Bx) (L : Int) (n : ByteArray) (d y : Int) : (enterL l L n d y).length ≤ l.length + 1 := by
  unfold enterL
  split <;> simp
theorem stepL_len (L : Int) (l : List Bx) (o : O5) : (stepL L l o).length ≤ l.length + 1 := by
  unfold stepL
  split
  · exact enterL_len _ _ _ _ _
  split
  · rw [leaveL_len]; omega
  split
  · rw [leaveL_len]; omega
  split
  · rw [leaveL_len]; omega
  · omega
theorem playL_len (L : Int) (ops : List O5) : (playL L ops).length ≤ ops.length := by
  have : ∀ (ops : List O5) (l : List Bx), (ops.foldl (stepL L) l).length ≤ l.length + ops.length := by
    intro ops
    induction ops with
    | nil => simp
    | cons o r ih =>
      intro l
      have h1 := ih (stepL L l o)
      have h2 := stepL_len L l o
      simp only [List.foldl_cons, List.length_cons]
      omega
  simpa [playL] using this ops []
theorem playL_take (L : Int) (ops : List O5) (k : Nat) (h : k < ops.length) : playL L (ops.take (k + 1)) = stepL L (playL L (ops.take k)) ops[k] := by
  rw [List.take_succ_eq_append_getElem h, playL, List.foldl_append]
  rfl
def longR (l : List O5) : Bool := (l.any fun r => decide (100 < wrap64 ((r.box.size : Int) + r.to.size))) || decide ((60 : Int) < (l.length : Int))
theorem any_next5 {l : List O5} {k : Nat} (h : k < l.length) (f : O5 → Bool) : (l.drop k).any f = (f l[k] || (l.drop (k + 1)).any f) := by rw [List.drop_eq_getElem_cons h, List.any_cons]
set_option maxHeartbeats 4000000 in
theorem long_any (l : List O5) (v : Value) (w : World) (hs : Sl w 5 v (l.map O5.row)) : Calls Try.prog 15 #[v] w (RetB w (longR l)) := by
  have hll : l.length ≤ 9223372036854775807 := by have := hs.len_le; simp only [List.length_map, maxLen] at this; omega
  obtain ⟨a, c, rfl⟩ : ∃ a c, v = .slice a l.length c := by simpa using hs.shape
  have HS := Lib.hid hs
  obtain ⟨f, hf⟩ : ∃ f : O5 → Bool, f = fun r => decide (100 < wrap64 ((r.box.size : Int) + r.to.size)) := ⟨_, rfl⟩
  obtain ⟨B, hB⟩ : ∃ B, B = longR l := ⟨_, rfl⟩
  rw [← hB]
  have HW : Hid (B = (l.any f || decide ((60 : Int) < (l.length : Int)))) := Lib.hid (by rw [hB, hf]; rfl)
  have HFF := Lib.hid hf
  clear hs hf hB
  go_enter Try.func15, Try.ntmps15
  go_wp2_with fail
  go_loopw [4, 7] (fun _ i wr => ∃ k : Nat, k ≤ l.length ∧ i = .int .i64 k ∧ l.any f = (l.drop k).any f ∧ Below w.heap.size w wr) (fun _ i _ => l.length - (intOf i).toNat)
  case atStart => exact ⟨0, Nat.zero_le _, rfl, by rw [List.drop_zero], Below.refl _ _⟩
  case round =>
    obtain ⟨k, hk, rfl, hrel, hbel⟩ := hrel
    have HBEL := Lib.hid hbel
    by_cases hlt : k < l.length
    · obtain ⟨b, off, rfl, -, hb, hc⟩ := HS.out.at (i := k) (by simpa using hlt)
      have d0 := (hbel.cell (p := ⟨b, off + k * 5, none⟩) hb).trans (hc k l[k].row (by simp [hlt]) 0 _ rfl)
      have d1 := (hbel.cell (p := ⟨b, off + k * 5 + 1, none⟩) hb).trans (hc k l[k].row (by simp [hlt]) 1 _ rfl)
      have d2 := (hbel.cell (p := ⟨b, off + k * 5 + 2, none⟩) hb).trans (hc k l[k].row (by simp [hlt]) 2 _ rfl)
      have d3 := (hbel.cell (p := ⟨b, off + k * 5 + 3, none⟩) hb).trans (hc k l[k].row (by simp [hlt]) 3 _ rfl)
      have d4 := (hbel.cell (p := ⟨b, off + k * 5 + 4, none⟩) hb).trans (hc k l[k].row (by simp [hlt]) 4 _ rfl)
      rw [any_next5 hlt] at hrel
      generalize l[k] = x at *
      obtain ⟨xk, xd, xb, xt, xn⟩ := x
      simp only at d0 d1 d2 d3 d4
      have hfx : f ⟨xk, xd, xb, xt, xn⟩ = decide (100 < wrap64 ((xb.size : Int) + xt.size)) := by rw [HFF.out]
      rw [hfx] at hrel
      clear hfx hc hbel
      cases ht : decide (100 < wrap64 ((xb.size : Int) + xt.size))
      · rw [ht, Bool.false_or] at hrel
        have HR := Lib.hid hrel
        clear hrel
        go_wp2_with fail
        go_roundw
        case rel => exact ⟨k + 1, by omega, by go_num, HR.out, HBEL.out.alloc HBEL.out.size _⟩
        case measure => (simp [intOf]) <;> omega
      · rw [ht, Bool.true_or] at hrel
        have HR := Lib.hid hrel
        clear hrel
        go_wp2_with fail
        go_ret
        exact retB (by rw [HW.out, HR.out]; rfl) (HBEL.out.alloc HBEL.out.size _)
    · have HR : Hid (l.any f = false) := Lib.hid (by rw [hrel, List.drop_of_length_le (by omega)]; rfl)
      clear hrel hbel
      go_wp2_with fail
      go_ret
      exact retB (by rw [HW.out, HR.out, Bool.false_or]) HBEL.out
/-- An argument that is a slice of these. -/
theorem open_ops45 {H : Type} {enc : TypeId × Value → H} {W : World} {base : Nat} {v : Value} {d : DataW H} {p : List MemPlace} (hv : Value.okWide Try.prog W .any base 37 v)
    (h : DataW.Trod enc Try.prog W 0 (fun _ => true) true 37 v d p) : ∃ l : List O5, Sl W 5 v (l.map O5.row) ∧ ∀ h ∈ l, h.fit := by
  obtain ⟨a, len, cap, rfl⟩ := okWide_slice Try.underlying37 hv
  obtain ⟨fuel, hf⟩ := h
  obtain ⟨rows, hs, _, hg⟩ := open_sl (sz := 5) (Good := fun cs => ∃ d : { d : O5 // d.fit }, cs = d.1.row) Try.underlying37 (by kernel_rfl) rfl hf (fun n cs y hy => by
    obtain ⟨hl, m, hg⟩ := row_fields Try.underlying57 (by kernel_rfl) (by kernel_rfl) hy
    match cs, hl with
    | [c0, c1, c2, c3, c4], _ =>
      obtain ⟨z0, g0⟩ := hg 0 _ rfl c0 rfl
      obtain ⟨s0, e0, _, f0⟩ := DataW.trod_int Try.underlying3 g0
      obtain rfl : c0 = .int .i64 s0 := by simpa using e0
      obtain ⟨z1, g1⟩ := hg 1 _ rfl c1 rfl
      obtain ⟨s1, e1, _, f1⟩ := DataW.trod_int Try.underlying3 g1
      obtain rfl : c1 = .int .i64 s1 := by simpa using e1
      obtain ⟨z2, g2⟩ := hg 2 _ rfl c2 rfl
      obtain ⟨s2, e2, _, f2⟩ := DataW.trod_string Try.underlying9 g2
      obtain rfl : c2 = .string s2 := by simpa using e2
      obtain ⟨z3, g3⟩ := hg 3 _ rfl c3 rfl
      obtain ⟨s3, e3, _, f3⟩ := DataW.trod_string Try.underlying9 g3
      obtain rfl : c3 = .string s3 := by simpa using e3
      obtain ⟨z4, g4⟩ := hg 4 _ rfl c4 rfl
      obtain ⟨s4, e4, _, f4⟩ := DataW.trod_int Try.underlying2 g4
      obtain rfl : c4 = .int .i64 s4 := by simpa using e4
      exact ⟨⟨⟨s0, s1, s2, s3, s4⟩, ⟨f2, f3⟩⟩, rfl⟩) (by decide)
  obtain ⟨l, rfl⟩ := choose_map (f := fun d : { d : O5 // d.fit } => d.1.row) rows hg
  refine ⟨l.map Subtype.val, by simpa [List.map_map, Function.comp_def] using hs, fun h hh => ?_⟩
  obtain ⟨d, _, rfl⟩ := List.mem_map.1 hh
  exact d.2

end Go.Proofs.Ytehlhfcaajhhaaa.Sc
