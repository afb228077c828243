/- New of a tariff: the first row that may not be, or stands twice; or the tariff. -/
import Derived.Test.YtehlhfcaajhhaaaTar45
namespace Go.Proofs.Ytehlhfcaajhhaaa.Sc
open Go Go.RowKit Go.ChangeShapes Go.WideShapes Go.ChangeAt
set_option maxRecDepth 100000

theorem grown_set (w : World) (b o : Nat) (u : Value) : w.grownBy (w.setCell ⟨b, o, none⟩ u) (some b) :=
  ⟨rfl, rfl, rfl, by simp [World.setCell], fun k _ hne => Below.heap_setCell w _ u k (fun e => hne (by rw [e]))⟩
def tEnts (l : List Rt) : List ((ByteArray × ByteArray) × Value) := l.map fun r => ((r.code, r.org), .agg #[.int .i64 r.num, .int .i64 r.den])
def hasR (l : List Rt) (c o : ByteArray) : Bool := l.any fun r => decide (r.code = c) && decide (r.org = o)
theorem kget_has (l : List Rt) (c o : ByteArray) : (hasR l c o = false → Km.kget (tEnts l) (c, o) = none) ∧ (hasR l c o = true → ∃ a b : Int, Km.kget (tEnts l) (c, o) = some (.agg #[.int .i64 a, .int .i64 b])) := by
  induction l with
  | nil => simp [hasR, tEnts, Km.kget]
  | cons r l ih =>
    simp only [tEnts, List.map_cons, Km.kget, hasR, List.any_cons] at *
    by_cases h : (c, o) = (r.code, r.org)
    · simp only [Prod.mk.injEq] at h
      obtain ⟨rfl, rfl⟩ := h
      simp
    · have : (decide (r.code = c) && decide (r.org = o)) = false := by
        rw [Bool.and_eq_false_iff]
        by_cases h1 : r.code = c
        · right
          apply decide_eq_false
          intro h2
          exact h (by rw [h1, h2])
        · left; exact decide_eq_false h1
      rw [if_neg h, this, Bool.false_or]
      exact ih
/-- What is wrong first with rows behind others. -/
def tarFrom : List Rt → List Rt → Int
  | _, [] => 0
  | done, r :: rest => if r.ok = false then 1 else if hasR done r.code r.org = true then 5 else tarFrom (done ++ [r]) rest
def tarCode (l : List Rt) : Int := tarFrom [] l
/-- The tariff of these rows in memory. -/
def Tar (w : World) (bt bm : Nat) (l : List Rt) : Prop := w.heap[bt]? = some (.cells #[.map (some bm)] 71 (0, 0)) ∧ Km.KMapAt Try.prog 74 rowEnc w bm (tEnts l)
def NewP (w : World) (l : List Rt) (e : Ending) (w' : World) : Prop :=
  Below w.heap.size w w' ∧ ((tarCode l ≠ 0 ∧ e = .returned (.tuple #[.pointer none, .int .i64 (tarCode l)])) ∨ (tarCode l = 0 ∧ ∃ bt bm, e = .returned (.tuple #[.pointer (some ⟨bt, 0, none⟩), .int .i64 0]) ∧ Tar w' bt bm l))
theorem newP_err {w w' : World} {l : List Rt} {c : Int} (h : tarCode l = c) (hc : c ≠ 0) (hb : Below w.heap.size w w') : NewP w l (.returned (.tuple #[.pointer none, .int .i64 c])) w' := ⟨hb, .inl ⟨by rw [h]; exact hc, by rw [h]⟩⟩
theorem tar_nodup : ∀ (rest done : List Rt), tarFrom done rest = 0 → ((tEnts done).map Prod.fst).Nodup → ((tEnts (done ++ rest)).map Prod.fst).Nodup ∧ ∀ r ∈ rest, r.ok = true
  | [], done, _, hd => ⟨by simpa using hd, by simp⟩
  | r :: rest, done, h, hd => by
    unfold tarFrom at h
    split at h
    · cases h
    · rename_i hok
      split at h
      · cases h
      · rename_i hh
        have hn := Km.kget_none ((kget_has done r.code r.org).1 (by simpa using hh))
        obtain ⟨h1, h2⟩ := tar_nodup rest (done ++ [r]) h (by
          simp only [tEnts, List.map_append, List.map_cons, List.map_nil] at hd hn ⊢
          exact List.nodup_append.2 ⟨hd, by simp, fun a ha b hb => by rw [List.mem_singleton.1 hb]; rintro rfl; exact hn ha⟩)
        refine ⟨by simpa using h1, fun x hx => ?_⟩
        rcases List.mem_cons.1 hx with rfl | hx
        · simpa using hok
        · exact h2 x hx
theorem tFst (l : List Rt) : (tEnts l).map Prod.fst = l.map fun r => (r.code, r.org) := by simp [tEnts]
theorem nodup_next {l : List Rt} {k : Nat} (h : k < l.length) (hn : ((tEnts (l.take k)).map Prod.fst).Nodup) (hg : Km.kget (tEnts (l.take k)) (l[k].code, l[k].org) = none) : ((tEnts (l.take (k + 1))).map Prod.fst).Nodup := by
  have h1 := Km.kget_none hg
  rw [tFst] at hn h1 ⊢
  rw [List.take_succ_eq_append_getElem h, List.map_append]
  refine List.nodup_append.2 ⟨hn, by simp, fun a ha b hb e => ?_⟩
  subst e
  obtain rfl : a = (l[k].code, l[k].org) := by simpa using hb
  exact h1 ha
theorem tEnts_next {l : List Rt} {k : Nat} (h : k < l.length) {c o : ByteArray} {d n e : Int} (hx : l[k] = ⟨c, o, d, n, e⟩) : tEnts (l.take (k + 1)) = tEnts (l.take k) ++ [((c, o), .agg #[.int .i64 n, .int .i64 e])] := by
  rw [List.take_succ_eq_append_getElem h, hx]
  simp [tEnts]
theorem tarFrom_next {l : List Rt} {k : Nat} (h : k < l.length) : tarFrom (l.take k) (l.drop k) = if l[k].ok = false then 1 else if hasR (l.take k) l[k].code l[k].org = true then 5 else tarFrom (l.take (k + 1)) (l.drop (k + 1)) := by
  rw [List.drop_eq_getElem_cons h, tarFrom, List.take_succ_eq_append_getElem h]
theorem KM_drew {w : World} {b : Nat} {l : List ((ByteArray × ByteArray) × Value)} (h : Km.KMapAt Try.prog 74 rowEnc w b l) : Km.KMapAt Try.prog 74 rowEnc w.drew b l := h.same rfl
theorem lower_drew {w w' : World} (h : Below w.heap.size w w') : Below w.heap.size w w'.drew := h.drew
set_option maxHeartbeats 8000000 in
theorem tarNew_any (l : List Rt) (v : Value) (w : World) (hs : Sl w 5 v (l.map Rt.row)) (hl : l.length ≤ 4000) (hf : ∀ r ∈ l, r.fit) :
    Calls Try.prog 11 #[v] w (NewP w l) := by
  obtain ⟨a, c, rfl⟩ : ∃ a c, v = .slice a l.length c := by simpa using hs.shape
  have hll : (l.length : Int) ≤ 4000 := by omega
  have HL := Lib.hid hl
  have HF := Lib.hid hf
  obtain ⟨w1, hw1⟩ : ∃ x, x = (w.alloc (.map #[] 0)).alloc (.cells #[.map (some w.heap.size)] 71) := ⟨_, rfl⟩
  have HB1 : Hid (Below w.heap.size w w1) := Lib.hid (hw1 ▸ (one_below _ _).alloc (by simp) _)
  have HT1 : Hid (Tar w1 (w.heap.size + 1) w.heap.size []) := Lib.hid (by
    refine ⟨?_, (Km.KMapAt.made Try.prog 74 w).same ?_⟩
    · rw [hw1]; have := heap_alloc_new (w.alloc (.map #[] 0)) (.cells #[.map (some w.heap.size)] 71); simpa using this
    · rw [hw1]; exact Below.heap_alloc _ _ _ (by simp))
  have HS := Lib.hid hs
  obtain ⟨bm, hbm⟩ : ∃ b, b = w.heap.size := ⟨_, rfl⟩
  obtain ⟨bt, hbt⟩ : ∃ b, b = w.heap.size + 1 := ⟨_, rfl⟩
  rw [← hbt, ← hbm] at HT1
  have HBM : Hid (w.heap.size ≤ bm) := Lib.hid (by omega)
  have HBT : Hid (w.heap.size ≤ bt) := Lib.hid (by omega)
  have HNE : Hid (¬ bm = bt) := Lib.hid (by omega)
  have HTC0 : Hid (tarCode l = tarFrom (l.take 0) (l.drop 0)) := Lib.hid rfl
  clear hs hl hf
  have tm : ∀ W : World, (Instr.makeMap 69 none).run Try.prog W = .ok (.map (some W.heap.size)) (W.alloc (.map #[] 0)) := fun W => by kernel_rfl
  have tl : decide ((4096 : Int) < l.length) = false := decide_eq_false (by omega)
  have HND0 : Hid ((((tEnts (l.take 0)).map Prod.fst)).Nodup) := Lib.hid (by simp [tEnts])
  go_enter Try.func11, Try.ntmps11
  go_wp2_with fail
  rw [← hw1, ← hbt]
  clear hw1 hbt hbm tm tl
  go_loopw [6, 7, 8, 9, 18] (fun _ _ _ _ i wr => ∃ k : Nat, k ≤ l.length ∧ i = .int .i64 k ∧ tarCode l = tarFrom (l.take k) (l.drop k) ∧ ((tEnts (l.take k)).map Prod.fst).Nodup ∧ Tar wr bt bm (l.take k) ∧ Below w.heap.size w wr) (fun _ _ _ _ i _ => l.length - (intOf i).toNat)
  case atStart => exact ⟨0, Nat.zero_le _, rfl, HTC0.out, HND0.out, HT1.out, HB1.out⟩
  case round =>
    obtain ⟨k, hk, rfl, htc, hnd, htar, hbel⟩ := hrel
    have HND := Lib.hid hnd
    have HTB0 := Lib.hid htar.1
    have HMP0 := Lib.hid htar.2
    have HBEL := Lib.hid hbel
    by_cases hlt : k < l.length
    · obtain ⟨b, off, rfl, -, hb, hc⟩ := HS.out.at (i := k) (by simpa using hlt)
      have d0 := (hbel.cell (p := ⟨b, off + k * 5, none⟩) hb).trans (hc k l[k].row (by simp [hlt]) 0 _ rfl)
      have d1 := (hbel.cell (p := ⟨b, off + k * 5 + 1, none⟩) hb).trans (hc k l[k].row (by simp [hlt]) 1 _ rfl)
      have d2 := (hbel.cell (p := ⟨b, off + k * 5 + 2, none⟩) hb).trans (hc k l[k].row (by simp [hlt]) 2 _ rfl)
      have d3 := (hbel.cell (p := ⟨b, off + k * 5 + 3, none⟩) hb).trans (hc k l[k].row (by simp [hlt]) 3 _ rfl)
      have d4 := (hbel.cell (p := ⟨b, off + k * 5 + 4, none⟩) hb).trans (hc k l[k].row (by simp [hlt]) 4 _ rfl)
      have HFK := Lib.hid (HF.out l[k] (List.getElem_mem hlt))
      rw [tarFrom_next hlt] at htc
      have hTE := fun c o d n e => @tEnts_next l k hlt c o d n e
      have hNX := nodup_next hlt hnd
      have hKG := kget_has (l.take k) l[k].code l[k].org
      generalize l[k] = x at *
      obtain ⟨xc, xo, xd, xn, xe⟩ := x
      have HTE := Lib.hid (hTE xc xo xd xn xe rfl)
      have HTC5 := Lib.hid htc
      have HNX0 := Lib.hid hNX
      have HKG := Lib.hid hKG
      have MAY := Lib.hid (fun W => may_any ⟨xc, xo, xd, xn, xe⟩ W HFK.out)
      have HX0 := Lib.hid (heap_alloc_new wr (.cells #[.string xc, .string xo, .int .i64 xd, .int .i64 xn, .int .i64 xe] 67))
      have HB0 := Lib.hid (one_below wr (.cells #[.string xc, .string xo, .int .i64 xd, .int .i64 xn, .int .i64 xe] 67))
      obtain ⟨yk, hyk⟩ := rowKey xc xo HFK.out.c HFK.out.o
      have HYK : Hid (keyOf Try.prog 74 (rowEnc (xc, xo)) = some yk) := Lib.hid hyk
      clear htc htar hnd hbel hc hTE hNX hKG hyk
      simp only [Rt.cells] at MAY d0 d1 d2 d3 d4
      cases ho : Rt.ok ⟨xc, xo, xd, xn, xe⟩
      · rw [ho] at MAY HTC5
        have HQ : Hid (tarCode l = 1) := Lib.hid (by rw [HTC5.out, if_pos rfl])
        clear ho
        go_wp2_with (first
          | ((with_reducible refine (MAY.out _).mono ?_); rintro e w2 ⟨rfl, hb2⟩; have HB2 := Lib.hid (below_then HB0.out hb2); clear hb2)
          | fail)
        go_ret2
        exact newP_err HQ.out (by decide) (HBEL.out.trans (HB2.out.mono HBEL.out.size))
      · rw [ho] at MAY HTC5
        clear ho
        have HTQ : Hid (tarCode l = if hasR (l.take k) xc xo = true then 5 else tarFrom (l.take (k + 1)) (l.drop (k + 1))) := Lib.hid (by rw [HTC5.out, if_neg (by decide)])
        go_wp2_with (first
          | ((with_reducible refine (MAY.out _).mono ?_); rintro e w2 ⟨rfl, hb2⟩; have HX2 := Lib.hid (blk hb2 (lt_blk HX0.out) HX0.out); have HB2 := Lib.hid (below_then HB0.out hb2); have c0 := cell_blk HX2.out 0; have c1 := cell_blk HX2.out 1; clear hb2)
          | fail)
        obtain ⟨w3, hw3⟩ : ∃ x, x = w2.alloc (.cells #[.string xc, .string xo] 74) := ⟨_, rfl⟩
        rw [← hw3]
        obtain ⟨bk, hbk⟩ : ∃ b, b = w2.heap.size := ⟨_, rfl⟩
        obtain ⟨bx, hbx⟩ : ∃ b, b = wr.heap.size := ⟨_, rfl⟩
        have HBB : Hid (Below w2.heap.size w2 w3) := Lib.hid (hw3 ▸ one_below _ _)
        have HB23 := Lib.hid (below_then HB2.out HBB.out)
        have HB3 := Lib.hid (HBEL.out.trans (HB23.out.mono HBEL.out.size))
        have HKB : Hid (w3.heap[bk]? = some (.cells #[.string xc, .string xo] 74 (0, 0))) := Lib.hid (by rw [hbk, hw3]; exact heap_alloc_new _ _)
        have HXB : Hid (w3.heap[bx]? = some (.cells #[.string xc, .string xo, .int .i64 xd, .int .i64 xn, .int .i64 xe] 67 (0, 0))) := Lib.hid (by rw [hbx]; exact blk HBB.out (lt_blk HX2.out) HX2.out)
        have HTC : Hid (∀ W, Below w3.heap.size w3 W → W.cell? ⟨bt, 0, none⟩ = some (.map (some bm))) := Lib.hid (fun W hW => cell_blk (blk (below_then HB23.out hW) (lt_blk HTB0.out) HTB0.out) 0)
        have HTB : Hid (∀ W, Below w3.heap.size w3 W → W.heap[bt]? = some (.cells #[.map (some bm)] 71 (0, 0))) := Lib.hid (fun W hW => blk (below_then HB23.out hW) (lt_blk HTB0.out) HTB0.out)
        have HMP : Hid (∀ W, Below w3.heap.size w3 W → Km.KMapAt Try.prog 74 rowEnc W bm (tEnts (l.take k))) := Lib.hid (fun W hW => HMP0.out.same ((below_then HB23.out hW).block bm HMP0.out.lt))
        have HKC : Hid (∀ W, Below w3.heap.size w3 W → W.cell? ⟨bk, 0, none⟩ = some (.string xc) ∧ W.cell? ⟨bk, 1, none⟩ = some (.string xo)) := Lib.hid (fun W hW => ⟨cell_blk (blk hW (lt_blk HKB.out) HKB.out) 0, cell_blk (blk hW (lt_blk HKB.out) HKB.out) 1⟩)
        have HXC : Hid (∀ W, Below w3.heap.size w3 W → W.cell? ⟨bx, 3, none⟩ = some (.int .i64 xn) ∧ W.cell? ⟨bx, 4, none⟩ = some (.int .i64 xe)) := Lib.hid (fun W hW => ⟨cell_blk (blk hW (lt_blk HXB.out) HXB.out) 3, cell_blk (blk hW (lt_blk HXB.out) HXB.out) 4⟩)
        rw [← hbk, ← hbx]
        clear hw3 hbk hbx d0 d1 d2 d3 d4 c0 c1
        cases hh : hasR (l.take k) xc xo
        · have HGN := Lib.hid (HKG.out.1 hh)
          have HGT := HGN
          have HMX : Hid ((if hasR (l.take k) xc xo = true then 5 else tarFrom (l.take (k + 1)) (l.drop (k + 1))) = tarFrom (l.take (k + 1)) (l.drop (k + 1))) := Lib.hid (by rw [hh, if_neg (by decide)])
          have HNX := Lib.hid (HNX0.out HGN.out)
          have HTC5 := HTQ
          clear hh
          refine Any.region_lit (fun
            | 0 => Any.val (.pointer (some ⟨bt, 0, none⟩))
            | 1 => Any.val (.pointer (some ⟨bt, 0, none⟩))
            | 2 => Any.val (.pointer (some ⟨bt, 0, none⟩))
            | 3 => Any.val (.map (some bm))
            | 4 => Any.val (.agg #[.string xc, .string xo])
            | 5 => Any.val (.tuple #[.agg #[.int .i64 0, .int .i64 0], .bool false])
            | 6 => Any.val (.tuple #[.agg #[.int .i64 0, .int .i64 0], .bool false])
            | 7 => Any.val (.agg #[.int .i64 0, .int .i64 0])
            | 8 => Any.val (.bool false)
            | 9 => Any.boxS w3.heap.size 65 #[.int .i64 0, .int .i64 0]
            | 10 => ⟨fun _ _ => True, fun _ => none, [9]⟩
            | 11 => Any.val (.bool false)
            | _ => Any.idle) (by kernel_rfl) (by kernel_rfl) (by kernel_rfl) ?_ ?_ ?_
          · intro i _
            match i with
            | 0 => exact Any.lasts_val _
            | 1 => exact Any.lasts_val _
            | 2 => exact Any.lasts_val _
            | 3 => exact Any.lasts_val _
            | 4 => exact Any.lasts_val _
            | 5 => exact Any.lasts_val _
            | 6 => exact Any.lasts_val _
            | 7 => exact Any.lasts_val _
            | 8 => exact Any.lasts_val _
            | 9 => exact Any.lasts_box _ _ _
            | 10 => exact Any.lasts_lost _
            | 11 => exact Any.lasts_val _
            | n + 12 => exact Any.lasts_idle
          · refine ⟨?_, ?_, ?_, ?_, ?_, ?_, ?_, ?_, ?_, ?_, ?_, ?_, trivial⟩
            · refine Any.owes_plain rfl fun ρ wo hs' hb hc' => ?_
              have h4 : ρ (.tmp 4) = .pointer (some ⟨bt, 0, none⟩) := hs'.old' 4 (by kernel_rfl)
              exact Any.ok_move (Any.post_val hb rfl h4)
            · refine Any.owes_plain rfl fun ρ wo hs' hb hc' => ?_
              have h31 : ρ (.tmp 31) = .pointer (some ⟨bt, 0, none⟩) := hs'.new' 31 0 (by kernel_rfl)
              go_simp
              exact Any.post_val hb rfl rfl
            · refine Any.owes_plain rfl fun ρ wo hs' hb hc' => ?_
              have h32 : ρ (.tmp 32) = .pointer (some ⟨bt, 0, none⟩) := hs'.new' 32 1 (by kernel_rfl)
              go_simp
              exact Any.post_val hb rfl rfl
            · refine Any.owes_plain rfl fun ρ wo hs' hb hc' => ?_
              have h33 : ρ (.tmp 33) = .pointer (some ⟨bt, 0, none⟩) := hs'.new' 33 2 (by kernel_rfl)
              have c0 := (HTC.out wo (below_undrew hb))
              go_simp
              exact Any.post_val hb rfl rfl
            · refine Any.owes_plain rfl fun ρ wo hs' hb hc' => ?_
              have h7 : ρ (.tmp 7) = .pointer (some ⟨bk, 0, none⟩) := hs'.old' 7 (by kernel_rfl)
              have c0 := (HKC.out wo (below_undrew hb)).1
              have c1 := (HKC.out wo (below_undrew hb)).2
              go_simp
              exact Any.post_val hb rfl rfl
            · refine Any.owes_plain rfl fun ρ wo hs' hb hc' => ?_
              have h34 : ρ (.tmp 34) = .map (some bm) := hs'.new' 34 3 (by kernel_rfl)
              have h35 : ρ (.tmp 35) = .agg #[.string xc, .string xo] := hs'.new' 35 4 (by kernel_rfl)
              refine Km.ok_lookup Try.underlying69 rowKeyed rowEnc_inj (rat_zero _) (h34.trans rfl) (h35.trans (rowEnc_mk xc xo).symm) (HMP.out wo (below_undrew hb)) HND.out HYK.out ?_
              rw [HGT.out]
              exact Any.post_val hb rfl rfl
            · refine Any.owes_plain rfl fun ρ wo hs' hb hc' => ?_
              have h36 : ρ (.tmp 36) = .tuple #[.agg #[.int .i64 0, .int .i64 0], .bool false] := hs'.new' 36 5 (by kernel_rfl)
              exact Any.ok_move (Any.post_val hb rfl h36)
            · refine Any.owes_plain rfl fun ρ wo hs' hb hc' => ?_
              have h30 : ρ (.tmp 30) = .tuple #[.agg #[.int .i64 0, .int .i64 0], .bool false] := hs'.new' 30 6 (by kernel_rfl)
              go_simp
              exact Any.post_val hb rfl rfl
            · refine Any.owes_plain rfl fun ρ wo hs' hb hc' => ?_
              have h30 : ρ (.tmp 30) = .tuple #[.agg #[.int .i64 0, .int .i64 0], .bool false] := hs'.new' 30 6 (by kernel_rfl)
              go_simp
              exact Any.post_val hb rfl rfl
            · refine Any.owes_plain rfl fun ρ wo hs' hb hc' => ?_
              go_simp
              exact Any.post_new hb ⟨_, rfl, hb.size, heap_alloc_new _ _⟩ (one_below _ _) (by intro b hb'; obtain rfl : wo.heap.size = b := Option.some.inj hb'; exact Nat.le_refl _)
            · refine Any.owes_plain rfl fun ρ wo hs' hb hc' => ?_
              have h37 : ρ (.tmp 37) = .agg #[.int .i64 0, .int .i64 0] := hs'.new' 37 7 (by kernel_rfl)
              obtain ⟨g, hg, hgB, hgb⟩ := hs'.new' 8 9 (by kernel_rfl)
              have c0 := cell_blk hgb 0
              have c1 := cell_blk hgb 1
              have f0 := free_blk hgb 0
              have f1 := free_blk hgb 1
              simp only [List.getElem?_toArray, List.getElem?_cons_zero, List.getElem?_cons_succ] at c0 c1
              go_simp
              exact Any.post_lost hb rfl rfl rfl hg hgB (grown_then (grown_set _ _ _ _) (grown_set _ _ _ _))
            · refine Any.owes_plain rfl fun ρ wo hs' hb hc' => ?_
              have h38 : ρ (.tmp 38) = .bool false := hs'.new' 38 8 (by kernel_rfl)
              exact Any.ok_assign (Any.post_val hb rfl h38)
          · intro vals w4 hb hk ha
            have h11 := hk 11 (by kernel_rfl)
            have hm4 := HMP.out _ hb
            have hx4 := HXC.out _ hb
            have hk4 := HKC.out _ hb
            have ht4 := HTC.out _ hb
            have HB4 := Lib.hid (HB3.out.trans (hb.mono HB3.out.size))
            have HTB4 := Lib.hid (HTB.out _ hb)
            have HM4 := Lib.hid hm4
            clear hk ha hb hm4
            simp only [Any.putAll]
            go_frame
            simp only [Nat.zero_add, Nat.reduceAdd]
            rw [h11]
            obtain ⟨k0, k1⟩ := hk4
            obtain ⟨x3, x4⟩ := hx4
            go_wp2_with fail
            go_still_tail 7, (by kernel_rfl)
            change wpList _ _ _ _ _ w4.drew
            go_wp2_with (first
              | ((with_reducible refine Km.wpl_update (l := tEnts (l.take k)) (key := (xc, xo)) (v := .agg #[.int .i64 xn, .int .i64 xe]) ?_ ?_ ?_ ?_ Try.underlying69 rowKeyed rowEnc_inj (KM_drew HM4.out) HND.out HYK.out HGN.out ?_); rfl; rfl; rfl; rfl; intro w6 hm6 hg6 hz6; have HM6 := Lib.hid hm6; have HG6 := Lib.hid hg6; clear hm6 hg6 hz6)
              | fail)
            go_roundw
            case rel => exact ⟨k + 1, by omega, by go_num, HTC5.out.trans HMX.out, HNX.out, ⟨(HG6.out.block _ (lt_blk HTB4.out) (fun e => HNE.out (Option.some.inj e).symm)).trans HTB4.out, by rw [HTE.out]; exact HM6.out⟩, (HB4.out.drew).grown HG6.out HB4.out.size (fun j hj => by obtain rfl : bm = j := Option.some.inj hj; exact HBM.out)⟩
            case measure => (simp [intOf]) <;> omega
        · obtain ⟨va, vb, hgt⟩ := HKG.out.2 hh
          have HGT := Lib.hid hgt
          have HHX : Hid ((if hasR (l.take k) xc xo = true then 5 else tarFrom (l.take (k + 1)) (l.drop (k + 1))) = 5) := Lib.hid (by rw [hh, if_pos rfl])
          have HTC5 := HTQ
          clear hh hgt
          refine Any.region_lit (fun
            | 0 => Any.val (.pointer (some ⟨bt, 0, none⟩))
            | 1 => Any.val (.pointer (some ⟨bt, 0, none⟩))
            | 2 => Any.val (.pointer (some ⟨bt, 0, none⟩))
            | 3 => Any.val (.map (some bm))
            | 4 => Any.val (.agg #[.string xc, .string xo])
            | 5 => Any.val (.tuple #[.agg #[.int .i64 va, .int .i64 vb], .bool true])
            | 6 => Any.val (.tuple #[.agg #[.int .i64 va, .int .i64 vb], .bool true])
            | 7 => Any.val (.agg #[.int .i64 va, .int .i64 vb])
            | 8 => Any.val (.bool true)
            | 9 => Any.boxS w3.heap.size 65 #[.int .i64 0, .int .i64 0]
            | 10 => ⟨fun _ _ => True, fun _ => none, [9]⟩
            | 11 => Any.val (.bool true)
            | _ => Any.idle) (by kernel_rfl) (by kernel_rfl) (by kernel_rfl) ?_ ?_ ?_
          · intro i _
            match i with
            | 0 => exact Any.lasts_val _
            | 1 => exact Any.lasts_val _
            | 2 => exact Any.lasts_val _
            | 3 => exact Any.lasts_val _
            | 4 => exact Any.lasts_val _
            | 5 => exact Any.lasts_val _
            | 6 => exact Any.lasts_val _
            | 7 => exact Any.lasts_val _
            | 8 => exact Any.lasts_val _
            | 9 => exact Any.lasts_box _ _ _
            | 10 => exact Any.lasts_lost _
            | 11 => exact Any.lasts_val _
            | n + 12 => exact Any.lasts_idle
          · refine ⟨?_, ?_, ?_, ?_, ?_, ?_, ?_, ?_, ?_, ?_, ?_, ?_, trivial⟩
            · refine Any.owes_plain rfl fun ρ wo hs' hb hc' => ?_
              have h4 : ρ (.tmp 4) = .pointer (some ⟨bt, 0, none⟩) := hs'.old' 4 (by kernel_rfl)
              exact Any.ok_move (Any.post_val hb rfl h4)
            · refine Any.owes_plain rfl fun ρ wo hs' hb hc' => ?_
              have h31 : ρ (.tmp 31) = .pointer (some ⟨bt, 0, none⟩) := hs'.new' 31 0 (by kernel_rfl)
              go_simp
              exact Any.post_val hb rfl rfl
            · refine Any.owes_plain rfl fun ρ wo hs' hb hc' => ?_
              have h32 : ρ (.tmp 32) = .pointer (some ⟨bt, 0, none⟩) := hs'.new' 32 1 (by kernel_rfl)
              go_simp
              exact Any.post_val hb rfl rfl
            · refine Any.owes_plain rfl fun ρ wo hs' hb hc' => ?_
              have h33 : ρ (.tmp 33) = .pointer (some ⟨bt, 0, none⟩) := hs'.new' 33 2 (by kernel_rfl)
              have c0 := (HTC.out wo (below_undrew hb))
              go_simp
              exact Any.post_val hb rfl rfl
            · refine Any.owes_plain rfl fun ρ wo hs' hb hc' => ?_
              have h7 : ρ (.tmp 7) = .pointer (some ⟨bk, 0, none⟩) := hs'.old' 7 (by kernel_rfl)
              have c0 := (HKC.out wo (below_undrew hb)).1
              have c1 := (HKC.out wo (below_undrew hb)).2
              go_simp
              exact Any.post_val hb rfl rfl
            · refine Any.owes_plain rfl fun ρ wo hs' hb hc' => ?_
              have h34 : ρ (.tmp 34) = .map (some bm) := hs'.new' 34 3 (by kernel_rfl)
              have h35 : ρ (.tmp 35) = .agg #[.string xc, .string xo] := hs'.new' 35 4 (by kernel_rfl)
              refine Km.ok_lookup Try.underlying69 rowKeyed rowEnc_inj (rat_zero _) (h34.trans rfl) (h35.trans (rowEnc_mk xc xo).symm) (HMP.out wo (below_undrew hb)) HND.out HYK.out ?_
              rw [HGT.out]
              exact Any.post_val hb rfl rfl
            · refine Any.owes_plain rfl fun ρ wo hs' hb hc' => ?_
              have h36 : ρ (.tmp 36) = .tuple #[.agg #[.int .i64 va, .int .i64 vb], .bool true] := hs'.new' 36 5 (by kernel_rfl)
              exact Any.ok_move (Any.post_val hb rfl h36)
            · refine Any.owes_plain rfl fun ρ wo hs' hb hc' => ?_
              have h30 : ρ (.tmp 30) = .tuple #[.agg #[.int .i64 va, .int .i64 vb], .bool true] := hs'.new' 30 6 (by kernel_rfl)
              go_simp
              exact Any.post_val hb rfl rfl
            · refine Any.owes_plain rfl fun ρ wo hs' hb hc' => ?_
              have h30 : ρ (.tmp 30) = .tuple #[.agg #[.int .i64 va, .int .i64 vb], .bool true] := hs'.new' 30 6 (by kernel_rfl)
              go_simp
              exact Any.post_val hb rfl rfl
            · refine Any.owes_plain rfl fun ρ wo hs' hb hc' => ?_
              go_simp
              exact Any.post_new hb ⟨_, rfl, hb.size, heap_alloc_new _ _⟩ (one_below _ _) (by intro b hb'; obtain rfl : wo.heap.size = b := Option.some.inj hb'; exact Nat.le_refl _)
            · refine Any.owes_plain rfl fun ρ wo hs' hb hc' => ?_
              have h37 : ρ (.tmp 37) = .agg #[.int .i64 va, .int .i64 vb] := hs'.new' 37 7 (by kernel_rfl)
              obtain ⟨g, hg, hgB, hgb⟩ := hs'.new' 8 9 (by kernel_rfl)
              have c0 := cell_blk hgb 0
              have c1 := cell_blk hgb 1
              have f0 := free_blk hgb 0
              have f1 := free_blk hgb 1
              simp only [List.getElem?_toArray, List.getElem?_cons_zero, List.getElem?_cons_succ] at c0 c1
              go_simp
              exact Any.post_lost hb rfl rfl rfl hg hgB (grown_then (grown_set _ _ _ _) (grown_set _ _ _ _))
            · refine Any.owes_plain rfl fun ρ wo hs' hb hc' => ?_
              have h38 : ρ (.tmp 38) = .bool true := hs'.new' 38 8 (by kernel_rfl)
              exact Any.ok_assign (Any.post_val hb rfl h38)
          · intro vals w4 hb hk ha
            have h11 := hk 11 (by kernel_rfl)
            have HB4 := Lib.hid (HB3.out.trans (hb.mono HB3.out.size))
            clear hk ha hb
            simp only [Any.putAll]
            go_frame
            simp only [Nat.zero_add, Nat.reduceAdd]
            rw [h11]
            go_wp2_with fail
            go_ret2
            exact newP_err (HTC5.out.trans HHX.out) (by decide) HB4.out
    · have HE : Hid (tarCode l = 0) := Lib.hid (by rw [htc, List.drop_of_length_le (by omega)]; rfl)
      have HT : Hid (Tar wr bt bm l) := Lib.hid (by have := htar; rwa [List.take_of_length_le (by omega)] at this)
      clear hbel htar htc hnd
      go_wp2_with fail
      go_ret2
      exact ⟨HBEL.out, .inr ⟨HE.out, bt, bm, rfl, HT.out⟩⟩
end Go.Proofs.Ytehlhfcaajhhaaa.Sc
