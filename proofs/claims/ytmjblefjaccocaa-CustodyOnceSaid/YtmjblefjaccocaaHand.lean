/- Hand-overs: their rows; rows of texts. -/
import Derived.Test.YtmjblefjaccocaaName
namespace Go.Proofs.Ytmjblefjaccocaa.Sc
open Go Go.RowKit Go.ChangeShapes Go.WideShapes Go.ChangeAt

/-- A hand-over. -/
structure Hd where
  box : ByteArray
  frm : ByteArray
  to : ByteArray
  place : ByteArray
  day : Int
deriving DecidableEq

def Hd.cells (h : Hd) : Array Value := #[.string h.box, .string h.frm, .string h.to, .string h.place, .int .i64 h.day]
def Hd.row (h : Hd) : List Value := [.string h.box, .string h.frm, .string h.to, .string h.place, .int .i64 h.day]
/-- Texts of a length that may be. -/
def Hd.fit (h : Hd) : Prop := h.box.size ≤ maxLen ∧ h.frm.size ≤ maxLen ∧ h.to.size ≤ maxLen ∧ h.place.size ≤ maxLen

def stRow (s : ByteArray) : List Value := [.string s]

/-- An argument that is a slice of hand-overs. -/
theorem open_hands {H : Type} {enc : TypeId × Value → H} {W : World} {base : Nat} {v : Value} {d : DataW H} {p : List MemPlace} (hv : Value.okWide Try.prog W .any base 22 v)
    (h : DataW.Trod enc Try.prog W 0 (fun _ => true) true 22 v d p) : ∃ l : List Hd, Sl W 5 v (l.map Hd.row) ∧ ∀ h ∈ l, h.fit := by
  obtain ⟨a, len, cap, rfl⟩ := okWide_slice Try.underlying22 hv
  obtain ⟨fuel, hf⟩ := h
  obtain ⟨rows, hs, _, hg⟩ := open_sl (sz := 5) (Good := fun cs => ∃ d : { d : Hd // d.fit }, cs = d.1.row) Try.underlying22 (by kernel_rfl) rfl hf (fun n cs y hy => by
    obtain ⟨hl, m, hg⟩ := row_fields Try.underlying41 (by kernel_rfl) (by kernel_rfl) hy
    match cs, hl with
    | [c0, c1, c2, c3, c4], _ =>
      obtain ⟨z0, g0⟩ := hg 0 _ rfl c0 rfl
      obtain ⟨z1, g1⟩ := hg 1 _ rfl c1 rfl
      obtain ⟨z2, g2⟩ := hg 2 _ rfl c2 rfl
      obtain ⟨z3, g3⟩ := hg 3 _ rfl c3 rfl
      obtain ⟨z4, g4⟩ := hg 4 _ rfl c4 rfl
      obtain ⟨s0, e0, _, f0⟩ := DataW.trod_string Try.underlying9 g0
      obtain ⟨s1, e1, _, f1⟩ := DataW.trod_string Try.underlying9 g1
      obtain ⟨s2, e2, _, f2⟩ := DataW.trod_string Try.underlying9 g2
      obtain ⟨s3, e3, _, f3⟩ := DataW.trod_string Try.underlying9 g3
      obtain ⟨a, e4, _⟩ := DataW.trod_int Try.underlying3 g4
      obtain rfl : c0 = .string s0 := by simpa using e0
      obtain rfl : c1 = .string s1 := by simpa using e1
      obtain rfl : c2 = .string s2 := by simpa using e2
      obtain rfl : c3 = .string s3 := by simpa using e3
      obtain rfl : c4 = .int .i64 a := by simpa using e4
      exact ⟨⟨⟨s0, s1, s2, s3, a⟩, f0, f1, f2, f3⟩, rfl⟩) (by decide)
  obtain ⟨l, rfl⟩ := choose_map (f := fun d : { d : Hd // d.fit } => d.1.row) rows hg
  refine ⟨l.map Subtype.val, by simpa [List.map_map, Function.comp_def] using hs, fun h hh => ?_⟩
  obtain ⟨d, _, rfl⟩ := List.mem_map.1 hh
  exact d.2

set_option maxHeartbeats 1000000 in
theorem areNames_any (l : List ByteArray) (v : Value) (w : World) (hs : Sl w 1 v (l.map stRow)) : Calls Try.prog 34 #[v] w (RetB w (l.all nameOk)) := by
  have hml : l.length ≤ 9223372036854775807 := by have := hs.len_le; simp only [List.length_map, maxLen] at this; omega
  rcases hs with ⟨hx, a, c, rfl, _⟩ | ⟨b, off, cap, hv, hb, hcap, hmx, hc⟩
  · obtain rfl : l = [] := by simpa using hx
    go_enter Try.func34, Try.ntmps34
    go_wp2
    refine wp_loop_once ?_
    go_wp2
    go_ret
    exact retB rfl (Below.refl _ _)
  · rw [List.length_map] at hv hcap
    subst hv
    have HC := Lib.hid hc
    clear hc hmx
    go_enter Try.func34, Try.ntmps34
    go_wp2
    go_loopw [7] (fun i wr => ∃ k : Nat, k ≤ l.length ∧ i = .int .i64 k ∧ l.all nameOk = (l.drop k).all nameOk ∧ Below w.heap.size w wr) (fun i _ => l.length - (intOf i).toNat)
    case atStart => exact ⟨0, Nat.zero_le _, rfl, rfl, Below.refl _ _⟩
    case round =>
      obtain ⟨k, hk, rfl, hrel, hbel⟩ := hrel
      by_cases hlt : k < l.length
      · have hr := HC.out k (stRow l[k]) (by simp [hlt])
        have d0 := (hbel.cell (p := ⟨b, off + k * 1, none⟩) hb).trans (hr 0 _ rfl)
        rw [List.drop_eq_getElem_cons hlt, List.all_cons] at hrel
        have HR := Lib.hid hrel
        clear hr hrel
        generalize l[k] = s at *
        rw [Nat.mul_one] at d0
        go_wp2_with fail
        refine (isName_any s _).mono ?_
        rintro e w1 ⟨rfl, hb1⟩
        have hbel := hbel.trans (hb1.mono hbel.size)
        go_wp2_with fail
        all_goals first
          | (go_roundw
             case rel => exact ⟨k + 1, by omega, by go_num, by rw [HR.out]; simp_all, hbel⟩
             case measure => simp [intOf]; omega)
          | (go_ret
             exact retB (by rw [HR.out]; simp_all) hbel)
      · have HR := Lib.hid hrel
        clear hrel
        go_wp2
        go_ret
        exact retB (by rw [HR.out, List.drop_eq_nil_of_le (by omega)]; rfl) hbel
end Go.Proofs.Ytmjblefjaccocaa.Sc
