/- New liens; Release, Free, May: by the program. -/
import Derived.Test.YtnlfhncbnfmccaaKeepL26
namespace Go.Proofs.Ytnlfhncbnfmccaa.Sc
open Go Go.RowKit Go.ChangeShapes Go.WideShapes Go.ChangeAt
set_option maxRecDepth 100000

def NewP (w : World) (e : Ending) (w' : World) : Prop := ∃ bk bm, e = .returned (.pointer (some ⟨bk, 0, none⟩)) ∧ LnAt w' (fun k => w.heap.size ≤ k ∧ k < w'.heap.size) bk bm (fun _ => []) 0 [] ∧ Below w.heap.size w w'
theorem new_any (w : World) : Calls Try.prog 23 #[] w (NewP w) := by
  have tm : ∀ W : World, (Instr.makeMap 58 none).run Try.prog W = .ok (.map (some W.heap.size)) (W.alloc (.map #[] 0)) := fun W => by kernel_rfl
  obtain ⟨w1, hw1⟩ : ∃ x, x = (w.alloc (.map #[] 0)).alloc (.cells #[.map (some w.heap.size), .int .i64 0] 60) := ⟨_, rfl⟩
  have HN : Hid (NewP w (.returned (.pointer (some ⟨w.heap.size + 1, 0, none⟩))) w1) := Lib.hid (by
    have h0 := Mp.MapAt.made w
    have hs : w1.heap.size = w.heap.size + 2 := by rw [hw1]; simp
    refine ⟨w.heap.size + 1, w.heap.size, rfl, ⟨?_, ?_, (fun t v h => by cases h), fun _ _ => rfl, (fun t v g h => by cases h), (fun t u v v' g h => by cases h), ⟨by omega, by omega⟩, ⟨by omega, by omega⟩, by omega, fun k hk => hk.2⟩, ?_⟩
    · rw [hw1]
      have := heap_alloc_new (w.alloc (.map #[] 0)) (.cells #[.map (some w.heap.size), .int .i64 0] 60)
      simpa using this
    · rw [hw1]
      exact h0.same (Below.heap_alloc _ _ _ h0.lt)
    · rw [hw1]
      exact (one_below w _).alloc (one_below w _).size _)
  go_enter Try.func23, Try.ntmps23
  go_wp2_with fail
  rw [← hw1]
  go_ret
  exact HN.out
theorem LnP.from {w w1 w' : World} {F : Nat → Prop} {bk bm n : Nat} {R : ByteArray → List Pg} {v : Value} {e : Ending} (hb : Below w.heap.size w w1) (h : LnP w1 F bk bm R n v e w') : LnP w F bk bm R n v e w' := by
  obtain ⟨F', es', he, h1, h2, h3⟩ := h
  exact ⟨F', es', he, h1, fun k hk => (h2 k hk).imp id (fun h => Nat.le_trans hb.size h), (Keep.of_below hb).trans h3 fun _ _ h => h⟩
theorem c32_any (x : Pg) (c : ByteArray) (b1 : Nat) (W : World) (h : W.heap[b1]? = some (.cells #[.string c] 9 (0, 0))) :
    Calls Try.prog 32 #[.agg x.cells, .pointer (some ⟨b1, 0, none⟩)] W (RetB W (!decide (x.cred = c))) := by
  have y := pgBox_of (heap_alloc_new W (.cells x.cells 37))
  have z := cell_blk (blk (one_below W (.cells x.cells 37)) (lt_blk h) h) 0
  obtain ⟨xt, xd, xc, xy, xa, xh⟩ := x
  obtain ⟨-, -, y1, -⟩ := y
  have t1 := str_beq xc c
  simp only [Pg.cells] at y1 z ⊢
  generalize decide (xc = c) = r at *
  clear h
  go_enter Try.func32, Try.ntmps32
  go_wp2_with fail
  go_ret
  exact ⟨rfl, one_below _ _⟩
section
variable {w : World} {F : Nat → Prop} {bk bm n : Nat} {R : ByteArray → List Pg} {es : Mp.Ents}
theorem free_any (h : LnAt w F bk bm R n es) (t : ByteArray) : Calls Try.prog 16 #[.pointer (some ⟨bk, 0, none⟩), .string t] w (RetB w (decide ((R t).length = 0))) := by
  have HM := Lib.hid h.map
  have y0 := cell_blk h.box 0
  have HGV : Hid ((Mp.mget es t).getD (.slice none 0 0) = rowV es t) := Lib.hid rfl
  obtain ⟨ar, cr, hv⟩ : ∃ a c, rowV es t = .slice a (R t).length c := by simpa using (own_pgs (h.row t) rfl).shape
  rw [hv] at HGV
  generalize (R t).length = m at *
  clear h hv
  by_cases h0 : m = 0
  · subst h0
    go_enter Try.func16, Try.ntmps16
    go_wp2_with (first
      | ((with_reducible refine Mp.wpl_val (l := es) (key := t) (v := .slice ar 0 cr) ?_ ?_ ?_ Try.underlying58 Try.underlying9 (zeroRow _) HM.out HGV.out ?_); rfl; rfl; rfl)
      | fail)
    go_ret
    exact ⟨rfl, Below.refl _ _⟩
  · have t1 : ((m : Int) == 0) = false := by simp; omega
    have t2 : (m == 0) = false := by simp [h0]
    rw [decide_eq_false h0]
    clear h0
    go_enter Try.func16, Try.ntmps16
    go_wp2_with (first
      | ((with_reducible refine Mp.wpl_val (l := es) (key := t) (v := .slice ar m cr) ?_ ?_ ?_ Try.underlying58 Try.underlying9 (zeroRow _) HM.out HGV.out ?_); rfl; rfl; rfl)
      | fail)
    go_ret
    exact ⟨rfl, Below.refl _ _⟩
set_option maxHeartbeats 2000000 in
theorem mayWho_any (h : LnAt w F bk bm R n es) (t who : ByteArray) : Calls Try.prog 18 #[.pointer (some ⟨bk, 0, none⟩), .string t, .string who] w (RetB w (!(R t).any fun x => !decide (x.cred = who))) := by
  obtain ⟨w1, hw1⟩ : ∃ x, x = w.alloc (.cells #[.string who] 9) := ⟨_, rfl⟩
  have HB1 : Hid (Below w.heap.size w w1) := Lib.hid (by rw [hw1]; exact one_below _ _)
  have H1 : Hid (w1.heap[w.heap.size]? = some (.cells #[.string who] 9 (0, 0))) := Lib.hid (by rw [hw1]; exact heap_alloc_new _ _)
  have h1 := h.below HB1.out
  have HM := Lib.hid h1.map
  have y0 := cell_blk h1.box 0
  have y0' := y0
  rw [hw1] at y0'
  have HGV : Hid ((Mp.mget es t).getD (.slice none 0 0) = rowV es t) := Lib.hid rfl
  have HC := Lib.hid (contains_any (fun x => !decide (x.cred = who)) 32 #[.pointer (some ⟨w.heap.size, 0, none⟩)] (R t) _ w1 (own_pgs (h1.row t) rfl) (enters_of Try.func32 (by kernel_rfl) rfl) (fun W x hW => c32_any x who _ W (blk hW (lt_blk H1.out) H1.out)))
  generalize (R t).any (fun x => !decide (x.cred = who)) = B at *
  generalize rowV es t = v at *
  clear h h1
  go_enter Try.func18, Try.ntmps18
  go_wp2_with (first
    | ((with_reducible refine Mp.wpl_val (l := es) (key := t) (v := v) ?_ ?_ ?_ Try.underlying58 Try.underlying9 (zeroRow _) (hw1 ▸ HM.out) HGV.out ?_); rfl; rfl; rfl)
    | fail)
  rw [← hw1]
  clear hw1
  go_wp2_with (first
    | ((with_reducible refine HC.out.mono ?_); rintro e w2 ⟨rfl, hb2⟩; have HB2 := Lib.hid (HB1.out.trans (hb2.mono HB1.out.size)); clear hb2)
    | fail)
  go_ret
  exact ⟨rfl, HB2.out⟩
def notC (c : ByteArray) (x : Pg) : Bool := !decide (x.cred = c)
def relK (R : ByteArray → List Pg) (t c : ByteArray) : Int := if ((R t).filter (notC c)).length = (R t).length then 4 else 0
set_option maxHeartbeats 2000000 in
theorem release_any (h : LnAt w F bk bm R n es) (t c : ByteArray) (hn : n ≤ 4096) (hr : (R t).length ≤ n) :
    Calls Try.prog 17 #[.pointer (some ⟨bk, 0, none⟩), .string t, .string c] w (LnP w F bk bm (keepR R t (notC c)) (n - ((R t).length - ((R t).filter (notC c)).length)) (.int .i64 (relK R t c))) := by
  obtain ⟨w1, hw1⟩ : ∃ x, x = w.alloc (.cells #[.string c] 9) := ⟨_, rfl⟩
  have HB1 : Hid (Below w.heap.size w w1) := Lib.hid (by rw [hw1]; exact one_below _ _)
  have H1 : Hid (w1.heap[w.heap.size]? = some (.cells #[.string c] 9 (0, 0))) := Lib.hid (by rw [hw1]; exact heap_alloc_new _ _)
  have h1 := h.below HB1.out
  have y1 := cell_blk h1.box 1
  have y1' := y1
  rw [hw1] at y1'
  have HK := Lib.hid (keep_any h1 t (notC c) 30 #[.pointer (some ⟨w.heap.size, 0, none⟩)] hn hr (enters_of Try.func30 (by kernel_rfl) rfl) (fun W x hW => c30_any x c _ W (blk hW (lt_blk H1.out) H1.out)))
  have hle := List.length_filter_le (notC c) (R t)
  obtain ⟨q, hq⟩ : ∃ q, q = relK R t c := ⟨_, rfl⟩
  rw [← hq]
  rw [relK] at hq
  generalize keepR R t (notC c) = R' at *
  generalize ((R t).filter (notC c)).length = m' at *
  generalize (R t).length = m at *
  obtain ⟨n', hn'⟩ : ∃ k, k = n - (m - m') := ⟨_, rfl⟩
  rw [← hn'] at HK ⊢
  have HN := Lib.hid hn
  by_cases he : m' = m
  · have hnn : n' = n := by omega
    rw [if_pos he] at hq
    subst hnn hq
    clear h h1 hle he hn hr hn'
    go_enter Try.func17, Try.ntmps17
    go_wp2_with fail
    rw [← hw1]
    clear hw1
    go_wp2_with (first
      | ((with_reducible refine HK.out.mono ?_); rintro e w2 ⟨F', es', rfl, hl2, hf2, hk2⟩; have z1 := cell_blk hl2.box 1; have HR := Lib.hid (LnP.from HB1.out ⟨F', es', rfl, hl2, hf2, hk2⟩ : LnP w F bk bm R' n' (.int .i64 4) _ _); clear hl2 hf2 hk2)
      | fail)
    go_ret
    exact HR.out
  · have hnn : ¬ n' = n := by omega
    have t1 : ((n' : Int) == (n : Int)) = false := by simp; omega
    have t2 : (n' == n) = false := by simp [hnn]
    rw [if_neg he] at hq
    subst hq
    clear h h1 hle he hn hr hn' hnn
    go_enter Try.func17, Try.ntmps17
    go_wp2_with fail
    rw [← hw1]
    clear hw1
    go_wp2_with (first
      | ((with_reducible refine HK.out.mono ?_); rintro e w2 ⟨F', es', rfl, hl2, hf2, hk2⟩; have z1 := cell_blk hl2.box 1; have HR := Lib.hid (LnP.from HB1.out ⟨F', es', rfl, hl2, hf2, hk2⟩ : LnP w F bk bm R' n' (.int .i64 0) _ _); clear hl2 hf2 hk2)
      | fail)
    go_ret
    exact HR.out
end
end Go.Proofs.Ytnlfhncbnfmccaa.Sc
