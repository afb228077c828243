/- Cut: an order is cut into consignments; by the program. -/
import Derived.Test.YtnbhneeohkfocaaDoorTo19
import Derived.OwnWalk
namespace Go.Proofs.YtnbhneeohkfocaaDoor.Sc
open Go Go.RowKit Go.ChangeShapes Go.WideShapes Go.ChangeAt
set_option maxRecDepth 100000

/-- What Cut tells. -/
def CutP (w : World) (s0 : ByteArray) (L : List Ln) (n : Nat) (p : Nat → Nat → Int) (e : Ending) (w' : World) : Prop :=
  ∃ v lc, e = .returned (.tuple #[v, .int .i64 0]) ∧ lc.length = n ∧ CsAt w' w.heap.size s0 L p v lc ∧ Below w.heap.size w w'
/-- No check of Cut holds. -/
theorem cutF_no (s0 s1 s2 s3 s4 s5 : ByteArray) (tm : Int) (L : List Ln) (a : Option Addr) (c n : Nat) (d : Nat → Int) (p : Nat → Nat → Int) (b1 o1 c1 b2 o2 c2 bo bd bp bc : Nat) (w : World)
    (h : CutW s0 s1 s2 s3 s4 s5 tm L a c n d p b1 o1 c1 b2 o2 c2 w bo bd bp) (hk : CutK s0 s1 s2 s3 s4 s5 tm L n d p) (hc : w.heap[bc]? = some (.cells #[.int .i64 1, .func (.func 15) #[] #[.pointer (some ⟨bo, 0, none⟩), .pointer (some ⟨bd, 0, none⟩), .pointer (some ⟨bp, 0, none⟩)], .int .i64 6, .func (.func 17) #[] #[.pointer (some ⟨bd, 0, none⟩)], .int .i64 4, .func (.func 19) #[] #[.pointer (some ⟨bp, 0, none⟩)], .int .i64 3, .func (.func 22) #[] #[.pointer (some ⟨bo, 0, none⟩), .pointer (some ⟨bp, 0, none⟩)]] 54 (0, 0))) :
    Calls Tryd.prog 14 #[.slice (some ⟨bc, 0, none⟩) 4 4] w (Ret w (.int .i64 0)) := by
  have hsl : Sl w 2 (.slice (some ⟨bc, 0, none⟩) 4 4) ([(⟨1, 15, #[.pointer (some ⟨bo, 0, none⟩), .pointer (some ⟨bd, 0, none⟩), .pointer (some ⟨bp, 0, none⟩)]⟩ : Chk), ⟨6, 17, #[.pointer (some ⟨bd, 0, none⟩)]⟩, ⟨4, 19, #[.pointer (some ⟨bp, 0, none⟩)]⟩, ⟨3, 22, #[.pointer (some ⟨bo, 0, none⟩), .pointer (some ⟨bp, 0, none⟩)]⟩].map Chk.row) := by
    refine .inr ⟨bc, 0, 4, rfl, lt_blk hc, Nat.le_refl _, by decide, fun i r hi j u hj => ?_⟩
    match i, hi with
    | 0, hi =>
      cases hi
      match j, hj with
      | 0, hj => cases hj; exact cell_blk hc 0
      | 1, hj => cases hj; exact cell_blk hc 1
      | j + 2, hj => cases hj
    | 1, hi =>
      cases hi
      match j, hj with
      | 0, hj => cases hj; exact cell_blk hc 2
      | 1, hj => cases hj; exact cell_blk hc 3
      | j + 2, hj => cases hj
    | 2, hi =>
      cases hi
      match j, hj with
      | 0, hj => cases hj; exact cell_blk hc 4
      | 1, hj => cases hj; exact cell_blk hc 5
      | j + 2, hj => cases hj
    | 3, hi =>
      cases hi
      match j, hj with
      | 0, hj => cases hj; exact cell_blk hc 6
      | 1, hj => cases hj; exact cell_blk hc 7
      | j + 2, hj => cases hj
    | i + 4, hi => cases hi
  refine first_none _ _ w hsl ?_ ?_
  · intro x hx
    simp only [List.mem_cons, List.not_mem_nil, or_false] at hx
    rcases hx with rfl | rfl | rfl | rfl
    · exact enters_of Tryd.func15 (by kernel_rfl) rfl
    · exact enters_of Tryd.func17 (by kernel_rfl) rfl
    · exact enters_of Tryd.func19 (by kernel_rfl) rfl
    · exact enters_of Tryd.func22 (by kernel_rfl) rfl
  · intro x hx W hW
    simp only [List.mem_cons, List.not_mem_nil, or_false] at hx
    rcases hx with rfl | rfl | rfl | rfl
    · exact cut1_no (h.below hW) hk
    · exact cut2_no (h.below hW) hk
    · exact cut3_no (h.below hW) hk
    · exact cut4_no (h.below hW) hk
set_option maxHeartbeats 16000000 in
theorem cut_any (s0 s1 s2 s3 s4 s5 : ByteArray) (tm : Int) (L : List Ln) (a : Option Addr) (c n : Nat) (d : Nat → Int) (p : Nat → Nat → Int) (b1 o1 c1 b2 o2 c2 : Nat) (w : World)
    (hs : Sl w 3 (.slice a L.length c) (L.map Ln.row)) (hk : CutK s0 s1 s2 s3 s4 s5 tm L n d p) (h1 : DtAt w b1 o1 n d) (h2 : PtAt w b2 o2 n L.length p) :
    Calls Tryd.prog 7 #[.agg #[.string s0, .string s1, .string s2, .string s3, .string s4, .string s5, .int .i64 tm, .slice a L.length c], .slice (some ⟨b1, o1, none⟩) n c1, .slice (some ⟨b2, o2, none⟩) n c2] w (CutP w s0 L n p) := by
  obtain ⟨bo, hbo⟩ : ∃ b, b = w.heap.size := ⟨_, rfl⟩
  obtain ⟨bd, hbd⟩ : ∃ b, b = w.heap.size + 1 := ⟨_, rfl⟩
  obtain ⟨bp, hbp⟩ : ∃ b, b = w.heap.size + 1 + 1 := ⟨_, rfl⟩
  obtain ⟨w3, hw3⟩ : ∃ W, ((w.alloc (.cells #[.string s0, .string s1, .string s2, .string s3, .string s4, .string s5, .int .i64 tm, .slice a L.length c] 24)).alloc (.cells #[.slice (some ⟨b1, o1, none⟩) n c1] 32)).alloc (.cells #[.slice (some ⟨b2, o2, none⟩) n c2] 35) = W := ⟨_, rfl⟩
  have e1 := one_below w (.cells #[.string s0, .string s1, .string s2, .string s3, .string s4, .string s5, .int .i64 tm, .slice a L.length c] 24)
  have hb3 : Below w.heap.size w w3 := by rw [← hw3]; exact (e1.trans ((one_below _ _).mono e1.size)).trans ((one_below _ _).mono (by simp <;> omega))
  have hxo : w3.heap[bo]? = some (.cells #[.string s0, .string s1, .string s2, .string s3, .string s4, .string s5, .int .i64 tm, .slice a L.length c] 24 (0, 0)) := by
    rw [← hw3, hbo]; exact blk (one_below _ _) (by simp <;> omega) (blk (one_below _ _) (by simp) (heap_alloc_new w _))
  have hxd : w3.heap[bd]? = some (.cells #[.slice (some ⟨b1, o1, none⟩) n c1] 32 (0, 0)) := by
    rw [← hw3, hbd]; refine blk (one_below _ _) (by simp) ?_
    have := heap_alloc_new (w.alloc (.cells #[.string s0, .string s1, .string s2, .string s3, .string s4, .string s5, .int .i64 tm, .slice a L.length c] 24)) (.cells #[.slice (some ⟨b1, o1, none⟩) n c1] 32)
    simpa using this
  have hxp : w3.heap[bp]? = some (.cells #[.slice (some ⟨b2, o2, none⟩) n c2] 35 (0, 0)) := by
    rw [← hw3, hbp]
    have := heap_alloc_new ((w.alloc (.cells #[.string s0, .string s1, .string s2, .string s3, .string s4, .string s5, .int .i64 tm, .slice a L.length c] 24)).alloc (.cells #[.slice (some ⟨b1, o1, none⟩) n c1] 32)) (.cells #[.slice (some ⟨b2, o2, none⟩) n c2] 35)
    simpa using this
  have hcw : CutW s0 s1 s2 s3 s4 s5 tm L a c n d p b1 o1 c1 b2 o2 c2 w3 bo bd bp := ⟨hxo, cell_blk hxd 0, cell_blk hxp 0, hs.below hb3 (Nat.le_refl _), h1.below hb3, h2.below hb3⟩
  obtain ⟨w4, hw4⟩ : ∃ W, w3.alloc (.cells #[.int .i64 1, .func (.func 15) #[] #[.pointer (some ⟨bo, 0, none⟩), .pointer (some ⟨bd, 0, none⟩), .pointer (some ⟨bp, 0, none⟩)], .int .i64 6, .func (.func 17) #[] #[.pointer (some ⟨bd, 0, none⟩)], .int .i64 4, .func (.func 19) #[] #[.pointer (some ⟨bp, 0, none⟩)], .int .i64 3, .func (.func 22) #[] #[.pointer (some ⟨bo, 0, none⟩), .pointer (some ⟨bp, 0, none⟩)]] 54) = W := ⟨_, rfl⟩
  have hb4 : Below w3.heap.size w3 w4 := hw4 ▸ one_below _ _
  have hck : w4.heap[w3.heap.size]? = some (.cells #[.int .i64 1, .func (.func 15) #[] #[.pointer (some ⟨bo, 0, none⟩), .pointer (some ⟨bd, 0, none⟩), .pointer (some ⟨bp, 0, none⟩)], .int .i64 6, .func (.func 17) #[] #[.pointer (some ⟨bd, 0, none⟩)], .int .i64 4, .func (.func 19) #[] #[.pointer (some ⟨bp, 0, none⟩)], .int .i64 3, .func (.func 22) #[] #[.pointer (some ⟨bo, 0, none⟩), .pointer (some ⟨bp, 0, none⟩)]] 54 (0, 0)) := hw4 ▸ heap_alloc_new w3 _
  have HF := Lib.hid (cutF_no s0 s1 s2 s3 s4 s5 tm L a c n d p b1 o1 c1 b2 o2 c2 bo bd bp w3.heap.size w4 (hcw.below hb4) hk hck)
  have HCW := Lib.hid (fun W (hW : Below w4.heap.size w4 W) => (hcw.below hb4).below hW)
  have HB4 := Lib.hid (hb3.trans (hb4.mono hb3.size))
  have HS := Lib.hid hs
  have HP := Lib.hid hk.pts
  have HKN : Hid (n ≤ 2 ∧ L.length ≤ 64) := Lib.hid ⟨hk.pts.n2, hk.ok.hi⟩
  have HW3 := Lib.hid hw3
  have HW4 := Lib.hid hw4
  have HBO := Lib.hid hbo
  have HBD := Lib.hid hbd
  have HBP := Lib.hid hbp
  have hn2 := hk.pts.n2
  have hl64 := hk.ok.hi
  obtain ⟨i0, hi, hz, hsz, hby⟩ := info_parts infoCon
  have HIC := Lib.hid (And.intro hi (And.intro hz (And.intro hsz hby)))
  obtain ⟨i1, hi', hz', hsz', hby'⟩ := info_parts infoLt
  have HI := Lib.hid (And.intro hi' (And.intro hz' (And.intro hsz' hby')))
  clear hs hk h1 h2 hbo hbd hbp hw3 e1 hb3 hxo hxd hxp hcw hw4 hb4 hck hi hz hsz hby hi' hz' hsz' hby'
  go_enter Tryd.func7, Tryd.ntmps7
  go_upto_region 1 with fail
  rw [HW3.out, ← HBP.out, ← HBD.out, ← HBO.out]
  go_upto_region 4 with (first
    | (rw [HW4.out]; (with_reducible refine HF.out.mono ?_); rintro e w5 ⟨rfl, hb5⟩; have HB5 := Lib.hid hb5; clear hb5)
    | fail)
  have y5 := (HCW.out w5 HB5.out).xp
  go_wp2_with (first
    | (refine wpList_make_own w5 rfl (.const (.int .i64 0)) (.tmp 29) 36 rfl w4.heap.size 43 i0 _ 4 Tryd.underlying36 HIC.out.1 HIC.out.2.1 HIC.out.2.2.1 .i64 .i64 (n : Int) n rfl rfl rfl (by rw [HIC.out.2.2.2]; have := HKN.out.1; omega) (by have := HKN.out.1; simp only [maxLen]; omega) HB5.out.size ?_; intro w6 hown6 hgrow6; have hb6 : Below w5.heap.size w5 w6 := (Below.refl _ _).grown hgrow6 (Nat.le_refl _) (fun k hk => by cases hk); have HO6 := Lib.hid hown6; have HB6 := Lib.hid (HB5.out.trans (hb6.mono HB5.out.size)); have y6 := (HCW.out w6 HB6.out).xp; clear hown6 hgrow6 hb6)
    | fail)
  clear y5 y6
  go_loopw [9, 10, 11, 12, 13, 14, 33] (fun v _ _ _ _ _ i wr => ∃ (k : Nat) (lc : List Con), k ≤ n ∧ i = .int .i64 k ∧ lc.length = k ∧ CsAt wr w4.heap.size s0 L p v lc ∧ Below w4.heap.size w4 wr) (fun _ _ _ _ _ _ i _ => n - (intOf i).toNat)
  case atStart => exact ⟨0, [], Nat.zero_le _, rfl, rfl, ⟨HO6.out, fun i hi => absurd hi (Nat.not_lt_zero _)⟩, HB6.out⟩
  case round =>
  obtain ⟨k, lc, hk, rfl, hlc, hcs, hbel⟩ := hrel
  have HCS := Lib.hid hcs
  have HBE := Lib.hid hbel
  have HLC := Lib.hid hlc
  clear hcs hbel hlc
  by_cases hlt : k < n
  · obtain ⟨bi, oi, ci, d0, hr⟩ := (HCW.out wr HBE.out).pt k hlt
    have HR := Lib.hid hr
    have HD := Lib.hid ((HCW.out wr HBE.out).dt k hlt)
    have tk : ((k : Nat) : Int) < (n : Int) := by omega
    have HK := Lib.hid hlt
    have HKN2 : Hid (k ≤ 2) := Lib.hid (by omega)
    have HL64 : Hid (n ≤ 2 ∧ L.length ≤ 64) := HKN
    obtain ⟨wv, rfl⟩ : ∃ W, W = wr := ⟨_, rfl⟩
    clear hr hk
    go_upto_region 8 with fail
    clear d0
    have HQ : Hid (∀ W, Below wv.heap.size wv W → W.cell? ⟨bo, 0, none⟩ = some (.string s0) ∧ W.cell? ⟨bd, 0, none⟩ = some (.slice (some ⟨b1, o1, none⟩) n c1) ∧ W.cell? ⟨b1, o1 + k, none⟩ = some (.int .i64 (d k))) := Lib.hid (fun W hW => by
      have h := HCW.out W (HBE.out.trans (hW.mono HBE.out.size))
      exact ⟨cell_blk h.xo 0, h.xd, h.dt k hlt⟩)
    have HKN := HKN2
    clear HKN2 hlt
    refine Ord.region_lit (fun
      | 0 => Ord.val (.pointer (some ⟨bo, 0, none⟩))
      | 1 => Ord.val (.string s0)
      | 2 => Ord.val (.int .i64 (k : Int))
      | 3 => Ord.val (.int .i64 ((k : Int) + 1))
      | 4 => Ord.val (.slice (some ⟨b1, o1, none⟩) n c1)
      | 5 => Ord.val (.int .i64 (k : Int))
      | 6 => Ord.val (.pointer (some ⟨b1, o1 + k, none⟩))
      | 7 => Ord.val (.int .i64 (d k))
      | 8 => Ord.val (.agg #[.string s0, .int .i64 ((k : Int) + 1), .int .i64 (d k), .slice none 0 0])
      | 9 => Ord.box 43 #[.string ⟨#[]⟩, .int .i64 0, .int .i64 0, .slice none 0 0]
      | 10 => Ord.filled 43 #[.string s0, .int .i64 ((k : Int) + 1), .int .i64 (d k), .slice none 0 0] (.tmp 12) 9
      | _ => Ord.idle) (fun _ => False) (by kernel_rfl) (by kernel_rfl) (by kernel_rfl) ?_ ?_ ?_ ?_
    · intro i _
      match i with
      | 0 => exact Ord.lasts_val _
      | 1 => exact Ord.lasts_val _
      | 2 => exact Ord.lasts_val _
      | 3 => exact Ord.lasts_val _
      | 4 => exact Ord.lasts_val _
      | 5 => exact Ord.lasts_val _
      | 6 => exact Ord.lasts_val _
      | 7 => exact Ord.lasts_val _
      | 8 => exact Ord.lasts_val _
      | 9 => exact Ord.lasts_box _ _
      | 10 => exact Ord.lasts_filled _ _ _ _
      | n + 11 => exact Ord.lasts_idle
    · refine ⟨fun k b _ hh => ?_, fun k b _ hh => ?_, fun k k' b _ _ hne h1 h2 => ?_⟩
      · match k, hh with
        | 0, hh => exact hh.elim
        | 1, hh => exact hh.elim
        | 2, hh => exact hh.elim
        | 3, hh => exact hh.elim
        | 4, hh => exact hh.elim
        | 5, hh => exact hh.elim
        | 6, hh => exact hh.elim
        | 7, hh => exact hh.elim
        | 8, hh => exact hh.elim
        | 9, hh => exact hh.elim
        | 10, hh => exact hh.elim
        | m + 11, hh => exact hh.elim
      · match k, hh with
        | 0, hh => exact hh.elim
        | 1, hh => exact hh.elim
        | 2, hh => exact hh.elim
        | 3, hh => exact hh.elim
        | 4, hh => exact hh.elim
        | 5, hh => exact hh.elim
        | 6, hh => exact hh.elim
        | 7, hh => exact hh.elim
        | 8, hh => exact hh.elim
        | 9, hh => exact hh.elim
        | 10, hh => exact hh.elim
        | m + 11, hh => exact hh.elim
      · match k, h1 with
        | 0, hh => exact hh.elim
        | 1, hh => exact hh.elim
        | 2, hh => exact hh.elim
        | 3, hh => exact hh.elim
        | 4, hh => exact hh.elim
        | 5, hh => exact hh.elim
        | 6, hh => exact hh.elim
        | 7, hh => exact hh.elim
        | 8, hh => exact hh.elim
        | 9, hh => exact hh.elim
        | 10, hh => exact hh.elim
        | m + 11, hh => exact hh.elim
    · refine ⟨?_, ?_, ?_, ?_, ?_, ?_, ?_, ?_, ?_, ?_, ?_, trivial⟩
      · refine Ord.owes_plain rfl fun ρ Os wo hs' hb hc' => ?_
        have h3 : ρ (.tmp 3) = .pointer (some ⟨bo, 0, none⟩) := hs'.old' 3 (by kernel_rfl)
        go_simp
        exact Ord.post_val rfl rfl
      · refine Ord.owes_plain rfl fun ρ Os wo hs' hb hc' => ?_
        have h38 : ρ (.tmp 38) = .pointer (some ⟨bo, 0, none⟩) := hs'.val' 38 0 (by kernel_rfl) rfl
        have c0 := (HQ.out wo (hb.undrew.below (Nat.le_refl _) (fun _ _ h => h))).1
        go_simp
        exact Ord.post_val rfl rfl
      · refine Ord.owes_plain rfl fun ρ Os wo hs' hb hc' => ?_
        have h10 : ρ (.tmp 10) = .int .i64 (k : Int) := hs'.old' 10 (by kernel_rfl)
        exact Any.ok_move (Ord.post_val rfl h10)
      · refine Ord.owes_plain rfl fun ρ Os wo hs' hb hc' => ?_
        have h40 : ρ (.tmp 40) = .int .i64 (k : Int) := hs'.val' 40 2 (by kernel_rfl) rfl
        have hn := HKN.out
        go_simp
        exact Ord.post_val rfl (wrap_in (by omega))
      · refine Ord.owes_plain rfl fun ρ Os wo hs' hb hc' => ?_
        have h4 : ρ (.tmp 4) = .pointer (some ⟨bd, 0, none⟩) := hs'.old' 4 (by kernel_rfl)
        have c0 := (HQ.out wo (hb.undrew.below (Nat.le_refl _) (fun _ _ h => h))).2.1
        go_simp
        exact Ord.post_val rfl rfl
      · refine Ord.owes_plain rfl fun ρ Os wo hs' hb hc' => ?_
        have h10 : ρ (.tmp 10) = .int .i64 (k : Int) := hs'.old' 10 (by kernel_rfl)
        exact Any.ok_move (Ord.post_val rfl h10)
      · refine Ord.owes_plain rfl fun ρ Os wo hs' hb hc' => ?_
        have h42 : ρ (.tmp 42) = .slice (some ⟨b1, o1, none⟩) n c1 := hs'.val' 42 4 (by kernel_rfl) rfl
        have h43 : ρ (.tmp 43) = .int .i64 (k : Int) := hs'.val' 43 5 (by kernel_rfl) rfl
        go_simp
        exact Ord.post_val rfl rfl
      · refine Ord.owes_plain rfl fun ρ Os wo hs' hb hc' => ?_
        have h44 : ρ (.tmp 44) = .pointer (some ⟨b1, o1 + k, none⟩) := hs'.val' 44 6 (by kernel_rfl) rfl
        have c0 := (HQ.out wo (hb.undrew.below (Nat.le_refl _) (fun _ _ h => h))).2.2
        go_simp
        exact Ord.post_val rfl rfl
      · refine Ord.owes_plain rfl fun ρ Os wo hs' hb hc' => ?_
        have h39 : ρ (.tmp 39) = .string s0 := hs'.val' 39 1 (by kernel_rfl) rfl
        have h41 : ρ (.tmp 41) = .int .i64 ((k : Int) + 1) := hs'.val' 41 3 (by kernel_rfl) rfl
        have h45 : ρ (.tmp 45) = .int .i64 (d k) := hs'.val' 45 7 (by kernel_rfl) rfl
        go_simp
        exact Ord.post_val rfl rfl
      · refine Ord.owes_plain rfl fun ρ Os wo hs' hb hc' => ?_
        go_simp
        exact Ord.post_box rfl
      · refine Ord.owes_plain rfl fun ρ Os wo hs' hb hc' => ?_
        have h46 : ρ (.tmp 46) = .agg #[.string s0, .int .i64 ((k : Int) + 1), .int .i64 (d k), .slice none 0 0] := hs'.val' 46 8 (by kernel_rfl) rfl
        exact Ord.ok_filled (hs'.new' 12 9 (by kernel_rfl)) h46 (by kernel_rfl) rfl (by simp [Value.oneCell']) rfl
    intro vals Os ρs w6 hk hkn hln hap hbd
    obtain ⟨bg, hp8, hbg, hO⟩ := hkn 10 (by kernel_rfl)
    have h11 : vals 9 = .pointer (some ⟨bg, 0, none⟩) := (hln 10 12 9 (by kernel_rfl)).symm.trans hp8
    have hlo : wv.heap.size ≤ bg := ((hbd 10 (by kernel_rfl)) bg ((hO bg).2 rfl)).elim id (fun h => h.elim)
    have hbb : Below wv.heap.size wv w6 := hk.below (Nat.le_refl _) (fun _ _ h => h)
    have HI6 : Hid (CuI wv w6 bg s0 ((k : Int) + 1) (d k) (.slice none 0 0) (lotsP (L.take 0) 0 (p k))) := Lib.hid ⟨hbb, hbg, own_nilO _ _ _ _, hlo⟩
    clear hk hkn hln hap hbd hp8 hbg hbb hO hlo
    simp only [Any.putAll]
    go_frame
    simp only [Nat.zero_add, Nat.reduceAdd]
    rw [h11]
    clear h11
    have c7 := cell_blk (HCW.out w6 (HBE.out.trans (HI6.out.below.mono HBE.out.size))).xo 7
    go_wp2_with fail
    clear c7
    go_loopw [13, 14, 50] (fun _ _ i wx => ∃ (j : Nat) (vl : Value), j ≤ L.length ∧ i = .int .i64 j ∧ CuI wv wx bg s0 ((k : Int) + 1) (d k) vl (lotsP (L.take j) 0 (p k))) (fun _ _ i _ => L.length - (intOf i).toNat)
    case atStart => exact ⟨0, _, Nat.zero_le _, rfl, HI6.out⟩
    case round =>
    obtain ⟨j, vl, hj, rfl, hci⟩ := hrel
    have HCI := Lib.hid hci
    have hbw : Below w4.heap.size w4 wr := HBE.out.trans (hci.below.mono HBE.out.size)
    by_cases hlt : j < L.length
    · obtain ⟨b, off, rfl, hb, h0, h1, h2⟩ := ln_at HS.out hlt
      have hbw0 : Below w.heap.size w wr := HB4.out.trans (hbw.mono HB4.out.size)
      have d0 := (hbw0.cell (p := ⟨b, off + j * 3, none⟩) hb).trans h0
      have d1 := (hbw0.cell (p := ⟨b, off + j * 3 + 1, none⟩) hb).trans h1
      have d2 := (hbw0.cell (p := ⟨b, off + j * 3 + 2, none⟩) hb).trans h2
      have q0 := HR.out j hlt
      have hlbi : bi < wv.heap.size := cell_ltO q0
      have q1 := (hci.below.cell hlbi).trans q0
      have HLI := Lib.hid hlbi
      have HTK := Lib.hid (lotsP_take hlt (p k))
      have tj : ((j : Nat) : Int) < (L.length : Int) := by omega
      have HJ := Lib.hid hlt
      have HJ2 : Hid ((lotsP (L.take j) 0 (p k)).length ≤ 64) := Lib.hid (by have h1 := lotsP_len (L.take j) 0 (p k); rw [List.length_take] at h1; have := HL64.out; omega)
      generalize L[j] = x at *
      obtain ⟨xg, xc, xp⟩ := x
      generalize p k j = q at *
      generalize lotsP (L.take j) 0 (p k) = lots at *
      clear h0 h1 h2 hb hbw hbw0 hci q0 hlbi hj hlt
      have q2 := ((one_below wr (.cells #[.string xg, .int .i64 xc, .int .i64 xp] 34)).cell (cell_ltO q1)).trans q1
      by_cases hq : 0 < q
      · have t1 : decide (0 < q) = true := decide_eq_true hq
        rw [if_pos hq] at HTK
        clear hq
        obtain ⟨lb, hlb⟩ : ∃ b, b = wr.heap.size := ⟨_, rfl⟩
        have HLB := Lib.hid (heap_alloc_new wr (.cells #[.string xg, .int .i64 xc, .int .i64 xp] 34))
        have HBL := Lib.hid (one_below wr (.cells #[.string xg, .int .i64 xc, .int .i64 xp] 34))
        have HI8 := Lib.hid (HCI.out.on HBL.out)
        have HLT : Hid (lb = wr.heap.size) := Lib.hid hlb
        go_upto_region 13 with fail
        clear d0 d1 d2 q1 t1
        rw [← HLT.out] at HLB ⊢
        have HNB : Hid (bg < lb ∧ bi < lb ∧ ∀ b, vl.ownBlock = some b → b < lb) := Lib.hid ⟨HLT.out ▸ lt_blk HCI.out.box, HLT.out ▸ Nat.lt_of_lt_of_le HLI.out HCI.out.below.size, fun b hb => HLT.out ▸ (HCI.out.own.lt b hb).2⟩
        clear hlb HLT HBL HCI
        generalize wr.alloc (.cells #[.string xg, .int .i64 xc, .int .i64 xp] 34) = w8 at *
        have HPJ := Lib.hid q2
        clear q2
        have HNL : Hid (¬ (lb = bg ∨ vl.ownBlock = some lb)) := Lib.hid (fun h => h.elim (fun e => by have := HNB.out.1; omega) (fun e => by have := HNB.out.2.2 lb e; omega))
        have HNI : Hid (¬ (bi = bg ∨ vl.ownBlock = some bi)) := Lib.hid (fun h => h.elim (fun e => by have := HI8.out.lo; have := HLI.out; omega) (fun e => by have := (HI8.out.own.lt bi e).1; have := HLI.out; omega))
        have HLI8 : Hid (bi < w8.heap.size) := Lib.hid (Nat.lt_of_lt_of_le HLI.out HI8.out.below.size)
        have HBX := Lib.hid HI8.out.box
        have HROW := Lib.hid (ownsRow_base HI8.out.own (Nat.zero_le _))
        have HNE : Hid (∀ k, vl.ownBlock = some k → k ≠ bg) := Lib.hid (fun k hk e => own_offO HI8.out.own HI8.out.box (by decide) (e ▸ hk))
        have HL7 : Hid (lots.length + 1 ≤ maxLen ∧ (lots.length + 1) * 24 ≤ 140737488355328) := Lib.hid (by have := HJ2.out; simp only [maxLen]; omega)
        have HLI := HLI8
        refine Ord.region_lit (fun
          | 0 => Ord.val (.pointer (some ⟨bg, 3, none⟩))
          | 1 => Ord.val (vl)
          | 2 => Ord.val (.pointer (some ⟨lb, 0, none⟩))
          | 3 => Ord.val (.string xg)
          | 4 => Ord.val (.slice (some ⟨bi, oi, none⟩) L.length ci)
          | 5 => Ord.val (.int .i64 (j : Int))
          | 6 => Ord.val (.pointer (some ⟨bi, oi + j, none⟩))
          | 7 => Ord.val (.int .i64 q)
          | 8 => Ord.val (.agg #[.string xg, .int .i64 q])
          | 9 => Ord.one 59 #[.string xg, .int .i64 q]
          | 10 => Ord.grown 59 2 (lots.length + 1) (ltCells lots ++ [.string xg, .int .i64 q]) 9 (vl)
          | 11 => Ord.val (.pointer (some ⟨bg, 3, none⟩))
          | 12 => Ord.kept 59 2 (lots.length + 1) (ltCells lots ++ [.string xg, .int .i64 q]) (bg) (fun v => #[.string s0, .int .i64 ((k : Int) + 1), .int .i64 (d k), v]) 43 10
          | _ => Ord.idle) (fun k => k = bg ∨ (vl).ownBlock = some k) (by kernel_rfl) (by kernel_rfl) (by kernel_rfl) ?_ ?_ ?_ ?_
        · intro i _
          match i with
          | 0 => exact Ord.lasts_val _
          | 1 => exact Ord.lasts_val _
          | 2 => exact Ord.lasts_val _
          | 3 => exact Ord.lasts_val _
          | 4 => exact Ord.lasts_val _
          | 5 => exact Ord.lasts_val _
          | 6 => exact Ord.lasts_val _
          | 7 => exact Ord.lasts_val _
          | 8 => exact Ord.lasts_val _
          | 9 => exact Ord.lasts_one _ _
          | 10 => exact Ord.lasts_grown _ _ _ _ _ _
          | 11 => exact Ord.lasts_val _
          | 12 => exact Ord.lasts_kept _ _ _ _ _ _ _ _
          | n + 13 => exact Ord.lasts_idle
        · refine ⟨fun k b _ hh => ?_, fun k b _ hh => ?_, fun k k' b _ _ hne h1 h2 => ?_⟩
          · match k, hh with
            | 0, hh => exact hh.elim
            | 1, hh => exact hh.elim
            | 2, hh => exact hh.elim
            | 3, hh => exact hh.elim
            | 4, hh => exact hh.elim
            | 5, hh => exact hh.elim
            | 6, hh => exact hh.elim
            | 7, hh => exact hh.elim
            | 8, hh => exact hh.elim
            | 9, hh => exact hh.elim
            | 10, hh => exact .inr hh
            | 11, hh => exact hh.elim
            | 12, hh => exact .inl hh
            | m + 13, hh => exact hh.elim
          · match k, hh with
            | 0, hh => exact hh.elim
            | 1, hh => exact hh.elim
            | 2, hh => exact hh.elim
            | 3, hh => exact hh.elim
            | 4, hh => exact hh.elim
            | 5, hh => exact hh.elim
            | 6, hh => exact hh.elim
            | 7, hh => exact hh.elim
            | 8, hh => exact hh.elim
            | 9, hh => exact hh.elim
            | 10, hh => exact (HROW.out.lt b hh).2
            | 11, hh => exact hh.elim
            | 12, hh => exact hh ▸ lt_blk HBX.out
            | m + 13, hh => exact hh.elim
          · have a : (k = 10 ∧ (fun k => (vl).ownBlock = some k) b) ∨ (k = 12 ∧ (fun k => k = bg) b) := by
              match k, h1 with
              | 0, hh => exact hh.elim
              | 1, hh => exact hh.elim
              | 2, hh => exact hh.elim
              | 3, hh => exact hh.elim
              | 4, hh => exact hh.elim
              | 5, hh => exact hh.elim
              | 6, hh => exact hh.elim
              | 7, hh => exact hh.elim
              | 8, hh => exact hh.elim
              | 9, hh => exact hh.elim
              | 10, hh => exact .inl ⟨rfl, hh⟩
              | 11, hh => exact hh.elim
              | 12, hh => exact Or.inr (⟨rfl, hh⟩)
              | m + 13, hh => exact hh.elim
            have a' : (k' = 10 ∧ (fun k => (vl).ownBlock = some k) b) ∨ (k' = 12 ∧ (fun k => k = bg) b) := by
              match k', h2 with
              | 0, hh => exact hh.elim
              | 1, hh => exact hh.elim
              | 2, hh => exact hh.elim
              | 3, hh => exact hh.elim
              | 4, hh => exact hh.elim
              | 5, hh => exact hh.elim
              | 6, hh => exact hh.elim
              | 7, hh => exact hh.elim
              | 8, hh => exact hh.elim
              | 9, hh => exact hh.elim
              | 10, hh => exact .inl ⟨rfl, hh⟩
              | 11, hh => exact hh.elim
              | 12, hh => exact Or.inr (⟨rfl, hh⟩)
              | m + 13, hh => exact hh.elim
            rcases a with ⟨rfl, a⟩ | ⟨rfl, a⟩ <;> rcases a' with ⟨rfl, a'⟩ | ⟨rfl, a'⟩
            all_goals first | exact absurd rfl hne | (first | exact HNE.out _ a a' | exact HNE.out _ a' a)
        · refine ⟨?_, ?_, ?_, ?_, ?_, ?_, ?_, ?_, ?_, ?_, ?_, ?_, ?_, trivial⟩
          · refine Ord.owes_plain rfl fun ρ Os wo hs' hb hc' => ?_
            have h12 : ρ (.tmp 12) = .pointer (some ⟨bg, 0, none⟩) := hs'.old' 12 (by kernel_rfl)
            go_simp
            exact Ord.post_val rfl rfl
          · refine Ord.owes_plain rfl fun ρ Os wo hs' hb hc' => ?_
            have h60 : ρ (.tmp 60) = .pointer (some ⟨bg, 3, none⟩) := hs'.val' 60 0 (by kernel_rfl) rfl
            have c0 : wo.cell? ⟨bg, 3, none⟩ = some (vl) := (cell_blk ((hs'.early' 12 (by kernel_rfl) _ rfl).trans HBX.out) 3)
            go_simp
            exact Ord.post_val rfl rfl
          · refine Ord.owes_plain rfl fun ρ Os wo hs' hb hc' => ?_
            have h14 : ρ (.tmp 14) = .pointer (some ⟨lb, 0, none⟩) := hs'.old' 14 (by kernel_rfl)
            go_simp
            exact Ord.post_val rfl rfl
          · refine Ord.owes_plain rfl fun ρ Os wo hs' hb hc' => ?_
            have h62 : ρ (.tmp 62) = .pointer (some ⟨lb, 0, none⟩) := hs'.val' 62 2 (by kernel_rfl) rfl
            have c0 : wo.cell? ⟨lb, 0, none⟩ = some (.string xg) := (hb.undrew.cell (lt_blk HLB.out) HNL.out).trans (cell_blk HLB.out 0)
            go_simp
            exact Ord.post_val rfl rfl
          · refine Ord.owes_plain rfl fun ρ Os wo hs' hb hc' => ?_
            have h11 : ρ (.tmp 11) = .slice (some ⟨bi, oi, none⟩) L.length ci := hs'.old' 11 (by kernel_rfl)
            exact Any.ok_move (Ord.post_val rfl h11)
          · refine Ord.owes_plain rfl fun ρ Os wo hs' hb hc' => ?_
            have h13 : ρ (.tmp 13) = .int .i64 (j : Int) := hs'.old' 13 (by kernel_rfl)
            exact Any.ok_move (Ord.post_val rfl h13)
          · refine Ord.owes_plain rfl fun ρ Os wo hs' hb hc' => ?_
            have h64 : ρ (.tmp 64) = .slice (some ⟨bi, oi, none⟩) L.length ci := hs'.val' 64 4 (by kernel_rfl) rfl
            have h65 : ρ (.tmp 65) = .int .i64 (j : Int) := hs'.val' 65 5 (by kernel_rfl) rfl
            go_simp
            exact Ord.post_val rfl rfl
          · refine Ord.owes_plain rfl fun ρ Os wo hs' hb hc' => ?_
            have h66 : ρ (.tmp 66) = .pointer (some ⟨bi, oi + j, none⟩) := hs'.val' 66 6 (by kernel_rfl) rfl
            have c0 : wo.cell? ⟨bi, oi + j, none⟩ = some (.int .i64 q) := (hb.undrew.cell HLI.out HNI.out).trans HPJ.out
            go_simp
            exact Ord.post_val rfl rfl
          · refine Ord.owes_plain rfl fun ρ Os wo hs' hb hc' => ?_
            have h63 : ρ (.tmp 63) = .string xg := hs'.val' 63 3 (by kernel_rfl) rfl
            have h67 : ρ (.tmp 67) = .int .i64 q := hs'.val' 67 7 (by kernel_rfl) rfl
            go_simp
            exact Ord.post_val rfl rfl
          · refine Ord.owes_plain rfl fun ρ Os wo hs' hb hc' => ?_
            have h68 : ρ (.tmp 68) = .agg #[.string xg, .int .i64 q] := hs'.val' 68 8 (by kernel_rfl) rfl
            go_simp
            exact Ord.post_one rfl
          · refine Ord.owes_plain rfl fun ρ Os wo hs' hb hc' => ?_
            have h61 : ρ (.tmp 61) = vl := hs'.val' 61 1 (by kernel_rfl) rfl
            exact Ord.ok_grown Tryd.underlying39 HI.out.1 HI.out.2.1 HI.out.2.2.1 HI.out.2.2.2 rfl (by decide) h61 (hs'.new' 69 9 (by kernel_rfl)) HROW.out hs'.here rfl (by simp [Value.oneCell']) HL7.out.1 HL7.out.2 rfl
          · refine Ord.owes_plain rfl fun ρ Os wo hs' hb hc' => ?_
            have h12 : ρ (.tmp 12) = .pointer (some ⟨bg, 0, none⟩) := hs'.old' 12 (by kernel_rfl)
            go_simp
            exact Ord.post_val rfl rfl
          · refine Ord.owes_plain rfl fun ρ Os wo hs' hb hc' => ?_
            have h71 : ρ (.tmp 71) = .pointer (some ⟨bg, 3, none⟩) := hs'.val' 71 11 (by kernel_rfl) rfl
            exact Ord.ok_kept h71 (hs'.new' 70 10 (by kernel_rfl)) HBX.out (hs'.here _ rfl) ((show (3 : Nat) < 4 by decide)) (by decide) (fun _ => rfl) (fun _ => by kernel_rfl) rfl
        intro vals Os ρs w9 hk hkn hln hap hbd
        obtain ⟨v', r1, r2, r3⟩ := hkn 12 (by kernel_rfl)
        have hbd := hbd 12 (by kernel_rfl)
        have HI9 := Lib.hid (HI8.out.more (x := ⟨xg, q⟩) hk r1 r2 (fun b hb => hbd b ((r3 b).2 (.inr hb))))
        clear hkn hln hap hbd hk r1 r2 r3
        simp only [Any.putAll]
        go_frame
        go_wp2_with fail
        go_roundw
        case rel => exact ⟨j + 1, _, by have := HJ.out; omega, by go_num, by rw [HTK.out]; exact HI9.out⟩
        case measure => (have := HJ.out; simp [intOf]) <;> omega
      · have t1 : decide (0 < q) = false := decide_eq_false hq
        rw [if_neg hq, List.append_nil] at HTK
        clear hq
        go_wp2_with fail
        go_roundw
        case rel => exact ⟨j + 1, vl, by have := HJ.out; omega, by go_num, by rw [HTK.out]; exact HCI.out.on (one_below _ _)⟩
        case measure => (have := HJ.out; simp [intOf]) <;> omega
    · obtain rfl : j = L.length := by omega
      rw [List.take_length] at HCI
      have tj : ¬ (((L.length : Nat) : Int) < (L.length : Int)) := by omega
      obtain ⟨a8, c8, rfl⟩ := own_shpO HCI.out.own
      have HV : Hid (∀ b, (Value.slice a8 (lotsP L 0 (p k)).length c8).ownBlock = some b → b < wr.heap.size ∧ ¬ u9.ownBlock = some b) := Lib.hid (fun b hb => ⟨(HCI.out.own.lt b hb).2, fun e => by have := (HCI.out.own.lt b hb).1; have := (HCS.out.own.lt b e).2; omega⟩)
      have HSV := Lib.hid (own_ltks HCI.out.own rfl)
      generalize (lotsP L 0 (p k)).length = m at *
      have c0 := cell_blk HCI.out.box 0
      have c1 := cell_blk HCI.out.box 1
      have c2 := cell_blk HCI.out.box 2
      have c3 := cell_blk HCI.out.box 3
      have HCX := Lib.hid (HCS.out.below HCI.out.below)
      have HBX := Lib.hid hbw
      have HL7 : Hid (lc.length + 1 ≤ maxLen ∧ (lc.length + 1) * 56 ≤ 140737488355328 ∧ w4.heap.size ≤ wr.heap.size) := Lib.hid (by have := HLC.out; have := HL64.out; have := HK.out; have := hbw.size; simp only [maxLen]; omega)
      have HON : Hid (∀ u ∈ (#[.string s0, .int .i64 ((k : Int) + 1), .int .i64 (d k), .slice a8 m c8] : Array Value).toList, u.oneCell' = true) := Lib.hid (con_one ⟨s0, (k : Int) + 1, d k, .slice a8 m c8⟩ rfl)
      clear hci hj hlt hbw
      go_wp2_with (first
        | (((with_reducible refine Any.wpl_push ?_ ?_ ?_ Tryd.underlying36 HIC.out.1 HIC.out.2.1 HIC.out.2.2.1 HIC.out.2.2.2 ?_ (by decide) ?_ (HON.out) (HCX.out.own) HL7.out.1 HL7.out.2.1 HL7.out.2.2 ?_); rfl; rfl; rfl; rfl; rfl; intro v7 w7 hown7 hgrow7 hwho7))
        | fail)
      have HC7 := Lib.hid (HCX.out.push ⟨s0, (k : Int) + 1, d k, .slice a8 m c8⟩ rfl (by rw [HLC.out]; exact HSV.out) HV.out hown7 hgrow7 hwho7)
      have HB7 : Hid (Below w4.heap.size w4 w7) := Lib.hid (HBX.out.grown hgrow7 HBX.out.size (fun k hk => (HCX.out.own.lt k hk).1))
      clear hown7 hgrow7 hwho7
      go_roundw
      case rel => exact ⟨k + 1, _, by have := HK.out; omega, by go_num, by simp [HLC.out], HC7.out, HB7.out⟩
      case measure => (have := HK.out; simp [intOf]) <;> omega
  · obtain rfl : k = n := by omega
    have tk : ¬ (((k : Nat) : Int) < (k : Int)) := by omega
    clear hk hlt
    go_wp2_with fail
    go_ret2
    exact ⟨_, lc, rfl, HLC.out, HCS.out.base HB4.out.size, HB4.out.trans (HBE.out.mono HB4.out.size)⟩
end Go.Proofs.YtnbhneeohkfocaaDoor.Sc
