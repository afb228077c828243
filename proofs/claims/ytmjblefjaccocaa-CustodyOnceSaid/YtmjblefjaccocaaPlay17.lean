/- play: hand-overs done to both. -/
import Derived.Test.YtmjblefjaccocaaPlayB17
namespace Go.Proofs.Ytmjblefjaccocaa.Sc
open Go Go.RowKit Go.ChangeShapes Go.WideShapes Go.ChangeAt Mp

/-- What is done of a row: all that is not refused. -/
def doneOf (l : List Hd) : List Hd := l.foldl (fun done h => doneB (stepE done h) done h) []
theorem doneOf_snoc (l : List Hd) (h : Hd) : doneOf (l ++ [h]) = doneB (stepE (doneOf l) h) (doneOf l) h := by simp [doneOf]
theorem doneOf_take (l : List Hd) (k : Nat) (h : k < l.length) : doneOf (l.take (k + 1)) = doneB (stepE (doneOf (l.take k)) l[k]) (doneOf (l.take k)) l[k] := by rw [List.take_succ_eq_append_getElem h, doneOf_snoc]
theorem doneB_len (e : Int) (done : List Hd) (h : Hd) : (doneB e done h).length ≤ done.length + 1 := by unfold doneB; split <;> simp
theorem doneOf_len (l : List Hd) : (doneOf l).length ≤ l.length := by
  have : ∀ (l done : List Hd), (l.foldl (fun done h => doneB (stepE done h) done h) done).length ≤ done.length + l.length := by
    intro l
    induction l with
    | nil => simp
    | cons h r ih =>
      intro done
      have h1 := ih (doneB (stepE done h) done h)
      have h2 := doneB_len (stepE done h) done h
      simp only [List.foldl_cons, List.length_cons]
      omega
  simpa [doneOf] using this l []
def PlayPost (w : World) (done : List Hd) (e : Ending) (w' : World) : Prop :=
  ∃ p vd F, e = .returned (.tuple #[p, vd]) ∧ Below w.heap.size w w' ∧ Chain w' F p done ∧ (∀ b, F b → w.heap.size ≤ b) ∧ w'.ownsRow w.heap.size 41 5 vd done.length (hdCells done) ∧ Off F vd

set_option maxRecDepth 8000 in
set_option maxHeartbeats 4000000 in
theorem play_any (l : List Hd) (v : Value) (w : World) (hs : Sl w 5 v (l.map Hd.row)) (hlen : l.length ≤ 4000) (hfit : ∀ h ∈ l, h.fit) :
    Calls Try.prog 11 #[v] w (PlayPost w (doneOf l)) := by
  have hml : l.length ≤ 9223372036854775807 := by omega
  obtain ⟨a, c, rfl⟩ : ∃ a c, v = .slice a l.length c := by simpa using hs.shape
  have HSL := Lib.hid hs
  have HLEN := Lib.hid hlen
  have HFIT := Lib.hid hfit
  clear hs hlen hfit
  obtain ⟨i0, hi, hz, hsz, hby⟩ := info_parts infoHd
  have HI := Lib.hid (And.intro hi (And.intro hz (And.intro hsz hby)))
  clear hi hz hsz hby
  go_enter Try.func11, Try.ntmps11
  go_wp2_with fail
  refine (new_any _).mono ?_
  rintro e w1 ⟨p, rfl, hb1, F0, hc0, hF0⟩
  obtain ⟨bp, hbp⟩ : ∃ bp, p = .pointer (some ⟨bp, 0, none⟩) := by obtain ⟨bp, bm, l, h, _⟩ := hc0; exact ⟨bp, h⟩
  subst hbp
  have HC0 := Lib.hid hc0
  have HB1 := Lib.hid hb1
  have HF0 := Lib.hid hF0
  clear hc0 hb1 hF0
  go_wp2_with fail
  obtain ⟨p, hp⟩ : ∃ p, p = Value.pointer (some ⟨bp, 0, none⟩) := ⟨_, rfl⟩
  rw [← hp]
  rw [← hp] at HC0
  clear hp
  go_loopw [5, 8, 9, 16] (fun vd _ _ i wr => ∃ (k : Nat) (F : Nat → Prop), k ≤ l.length ∧ i = .int .i64 k ∧ Chain wr F p (doneOf (l.take k)) ∧ (∀ b, F b → w.heap.size ≤ b) ∧ Below w.heap.size w wr ∧
    wr.ownsRow w.heap.size 41 5 vd (doneOf (l.take k)).length (hdCells (doneOf (l.take k))) ∧ Off F vd) (fun _ _ _ i _ => l.length - (intOf i).toNat)
  case atStart => exact ⟨0, F0, Nat.zero_le _, rfl, HC0.out, HF0.out, HB1.out, World.ownsRow_nil _ _ _ _, fun b hb => by cases hb⟩
  case round =>
    obtain ⟨k, F, hk, rfl, hch, hF, hbel, hown, hoff⟩ := hrel
    have HCH := Lib.hid hch
    have HBEL := Lib.hid hbel
    have HF := Lib.hid hF
    have HOWN := Lib.hid hown
    have HOFF := Lib.hid hoff
    by_cases hlt : k < l.length
    · obtain ⟨b, off, rfl, -, hb, hc⟩ := HSL.out.at (i := k) (by simpa using hlt)
      have hr := hc k l[k].row (by simp [hlt])
      have d0 : wr.cell? ⟨b, off + k * 5, none⟩ = some (.string l[k].box) := (hbel.cell (p := ⟨b, off + k * 5, none⟩) hb).trans (hr 0 _ rfl)
      have d1 : wr.cell? ⟨b, off + k * 5 + 1, none⟩ = some (.string l[k].frm) := (hbel.cell (p := ⟨b, off + k * 5 + 1, none⟩) hb).trans (hr 1 _ rfl)
      have d2 : wr.cell? ⟨b, off + k * 5 + 2, none⟩ = some (.string l[k].to) := (hbel.cell (p := ⟨b, off + k * 5 + 2, none⟩) hb).trans (hr 2 _ rfl)
      have d3 : wr.cell? ⟨b, off + k * 5 + 3, none⟩ = some (.string l[k].place) := (hbel.cell (p := ⟨b, off + k * 5 + 3, none⟩) hb).trans (hr 3 _ rfl)
      have d4 : wr.cell? ⟨b, off + k * 5 + 4, none⟩ = some (.int .i64 l[k].day) := (hbel.cell (p := ⟨b, off + k * 5 + 4, none⟩) hb).trans (hr 4 _ rfl)
      have HT := Lib.hid (doneOf_take l k hlt)
      have HKL : Hid ((doneOf (l.take k)).length ≤ 4000) := Lib.hid (by have h1 := doneOf_len (l.take k); have := HLEN.out; simp at h1; omega)
      have HFX := Lib.hid (HFIT.out _ (List.getElem_mem hlt))
      clear hr hc hbel hch hF hown hoff
      generalize doneOf (l.take k) = done at *
      generalize l[k] = x at *
      have HBO := Lib.hid (one_below wr (.cells #[.string x.box, .string x.frm, .string x.to, .string x.place, .int .i64 x.day] 41))
      have HBX : Hid ((wr.alloc (.cells #[.string x.box, .string x.frm, .string x.to, .string x.place, .int .i64 x.day] 41)).heap[wr.heap.size]? = some (.cells #[.string x.box, .string x.frm, .string x.to, .string x.place, .int .i64 x.day] 41 (0, 0))) := Lib.hid (heap_alloc_new _ _)
      have HNX : Hid (¬ F wr.heap.size) := Lib.hid (fun h => Nat.lt_irrefl _ (HCH.out.lt _ h))
      have HCX := Lib.hid (HCH.out.below HBO.out)
      have HBW := Lib.hid (HBEL.out.trans (HBO.out.mono HBEL.out.size))
      have HD := Lib.hid ((own_hands HOWN.out rfl).below HBO.out (Nat.le_refl _))
      have HOWX := Lib.hid (ownsRow_below HOWN.out HBO.out)
      by_cases hfe : x.frm = ⟨#[]⟩
      · have t1 := empty_yes hfe
        have SR : Hid (∀ W, Sl W 5 u5 (done.map Hd.row) → Calls Try.prog 29 #[u5, .string x.box, .string x.to, .string x.place, .int .i64 x.day] W (RetI W (stepE done x))) := Lib.hid fun W h => by
          rw [stepE, if_pos hfe]; exact refBegins_any done x.box x.to x.place x.day u5 W h HKL.out HFX.out.1 HFX.out.2.2.1 HFX.out.2.2.2
        have SP : Hid (∀ W, Chain W F p done → Calls Try.prog 22 #[p, .string x.box, .string x.to, .string x.place, .int .i64 x.day] W (After W F (stepE done x) p (doneB (stepE done x) done x))) := Lib.hid fun W h => step_begin x hfe p done F W h HKL.out
        clear hfe
        generalize stepE done x = E at *
        go_wp2_with fail
        clear d0 d1 d2 d3 d4 t1
        refine Ord.region_lit (fun
          | 0 => Ord.val (u5)
          | 1 => Ord.val (.pointer (some ⟨wr.heap.size, 0, none⟩))
          | 2 => Ord.val (.string x.box)
          | 3 => Ord.val (.pointer (some ⟨wr.heap.size, 2, none⟩))
          | 4 => Ord.val (.string x.to)
          | 5 => Ord.val (.pointer (some ⟨wr.heap.size, 3, none⟩))
          | 6 => Ord.val (.string x.place)
          | 7 => Ord.val (.pointer (some ⟨wr.heap.size, 4, none⟩))
          | 8 => Ord.val (.int .i64 x.day)
          | 9 => Ord.val (.int .i64 E)
          | 10 => Ord.val (p)
          | 11 => Ord.val (.pointer (some ⟨wr.heap.size, 0, none⟩))
          | 12 => Ord.val (.string x.box)
          | 13 => Ord.val (.pointer (some ⟨wr.heap.size, 2, none⟩))
          | 14 => Ord.val (.string x.to)
          | 15 => Ord.val (.pointer (some ⟨wr.heap.size, 3, none⟩))
          | 16 => Ord.val (.string x.place)
          | 17 => Ord.val (.pointer (some ⟨wr.heap.size, 4, none⟩))
          | 18 => Ord.val (.int .i64 x.day)
          | 19 => ⟨fun v O w => v = .int .i64 E ∧ Chain w O p (doneB E done x), [], F⟩
          | 20 => Ord.val (.int .i64 E)
          | 21 => Ord.val (.int .i64 E)
          | _ => Ord.idle) (F) (by kernel_rfl) (by kernel_rfl) (by kernel_rfl) ?_ ?_ ?_ ?_
        · intro i _
          match i with
          | 0 => exact Ord.lasts_val _
          | 1 => exact Ord.lasts_val _
          | 2 => exact Ord.lasts_val _
          | 3 => exact Ord.lasts_val _
          | 4 => exact Ord.lasts_val _
          | 5 => exact Ord.lasts_val _
          | 6 => exact Ord.lasts_val _
          | 7 => exact Ord.lasts_val _
          | 8 => exact Ord.lasts_val _
          | 9 => exact Ord.lasts_val _
          | 10 => exact Ord.lasts_val _
          | 11 => exact Ord.lasts_val _
          | 12 => exact Ord.lasts_val _
          | 13 => exact Ord.lasts_val _
          | 14 => exact Ord.lasts_val _
          | 15 => exact Ord.lasts_val _
          | 16 => exact Ord.lasts_val _
          | 17 => exact Ord.lasts_val _
          | 18 => exact Ord.lasts_val _
          | 19 => exact ⟨fun v O w h b hb => h.2.lt b hb, fun v O w w' h h1 h2 h3 h4 => ⟨h.1, h.2.stands h1 h2 h3 h4⟩⟩
          | 20 => exact Ord.lasts_val _
          | 21 => exact Ord.lasts_val _
          | n + 22 => exact Ord.lasts_idle
        · refine ⟨fun k b _ hh => ?_, fun k b _ hh => ?_, fun k k' b _ _ hne h1 h2 => ?_⟩
          · match k, hh with
            | 0, hh => exact hh.elim
            | 1, hh => exact hh.elim
            | 2, hh => exact hh.elim
            | 3, hh => exact hh.elim
            | 4, hh => exact hh.elim
            | 5, hh => exact hh.elim
            | 6, hh => exact hh.elim
            | 7, hh => exact hh.elim
            | 8, hh => exact hh.elim
            | 9, hh => exact hh.elim
            | 10, hh => exact hh.elim
            | 11, hh => exact hh.elim
            | 12, hh => exact hh.elim
            | 13, hh => exact hh.elim
            | 14, hh => exact hh.elim
            | 15, hh => exact hh.elim
            | 16, hh => exact hh.elim
            | 17, hh => exact hh.elim
            | 18, hh => exact hh.elim
            | 19, hh => exact hh
            | 20, hh => exact hh.elim
            | 21, hh => exact hh.elim
            | m + 22, hh => exact hh.elim
          · match k, hh with
            | 0, hh => exact hh.elim
            | 1, hh => exact hh.elim
            | 2, hh => exact hh.elim
            | 3, hh => exact hh.elim
            | 4, hh => exact hh.elim
            | 5, hh => exact hh.elim
            | 6, hh => exact hh.elim
            | 7, hh => exact hh.elim
            | 8, hh => exact hh.elim
            | 9, hh => exact hh.elim
            | 10, hh => exact hh.elim
            | 11, hh => exact hh.elim
            | 12, hh => exact hh.elim
            | 13, hh => exact hh.elim
            | 14, hh => exact hh.elim
            | 15, hh => exact hh.elim
            | 16, hh => exact hh.elim
            | 17, hh => exact hh.elim
            | 18, hh => exact hh.elim
            | 19, hh => exact HCX.out.lt b hh
            | 20, hh => exact hh.elim
            | 21, hh => exact hh.elim
            | m + 22, hh => exact hh.elim
          · have a : (k = 19 ∧ (F) b) := by
              match k, h1 with
              | 0, hh => exact hh.elim
              | 1, hh => exact hh.elim
              | 2, hh => exact hh.elim
              | 3, hh => exact hh.elim
              | 4, hh => exact hh.elim
              | 5, hh => exact hh.elim
              | 6, hh => exact hh.elim
              | 7, hh => exact hh.elim
              | 8, hh => exact hh.elim
              | 9, hh => exact hh.elim
              | 10, hh => exact hh.elim
              | 11, hh => exact hh.elim
              | 12, hh => exact hh.elim
              | 13, hh => exact hh.elim
              | 14, hh => exact hh.elim
              | 15, hh => exact hh.elim
              | 16, hh => exact hh.elim
              | 17, hh => exact hh.elim
              | 18, hh => exact hh.elim
              | 19, hh => exact ⟨rfl, hh⟩
              | 20, hh => exact hh.elim
              | 21, hh => exact hh.elim
              | m + 22, hh => exact hh.elim
            have a' : (k' = 19 ∧ (F) b) := by
              match k', h2 with
              | 0, hh => exact hh.elim
              | 1, hh => exact hh.elim
              | 2, hh => exact hh.elim
              | 3, hh => exact hh.elim
              | 4, hh => exact hh.elim
              | 5, hh => exact hh.elim
              | 6, hh => exact hh.elim
              | 7, hh => exact hh.elim
              | 8, hh => exact hh.elim
              | 9, hh => exact hh.elim
              | 10, hh => exact hh.elim
              | 11, hh => exact hh.elim
              | 12, hh => exact hh.elim
              | 13, hh => exact hh.elim
              | 14, hh => exact hh.elim
              | 15, hh => exact hh.elim
              | 16, hh => exact hh.elim
              | 17, hh => exact hh.elim
              | 18, hh => exact hh.elim
              | 19, hh => exact ⟨rfl, hh⟩
              | 20, hh => exact hh.elim
              | 21, hh => exact hh.elim
              | m + 22, hh => exact hh.elim
            rcases a with ⟨rfl, a⟩ <;> rcases a' with ⟨rfl, a'⟩
            all_goals first | exact absurd rfl hne | (exact hne rfl)
        · refine ⟨?_, ?_, ?_, ?_, ?_, ?_, ?_, ?_, ?_, ?_, ?_, ?_, ?_, ?_, ?_, ?_, ?_, ?_, ?_, ?_, ?_, ?_, trivial⟩
          · refine Ord.owes_plain rfl fun ρ Os wo hs' hb hc' => ?_
            have h5 : ρ (.tmp 5) = u5 := hs'.old' 5 (by kernel_rfl)
            exact Any.ok_move (Ord.post_val rfl h5)
          · refine Ord.owes_plain rfl fun ρ Os wo hs' hb hc' => ?_
            have h7 : ρ (.tmp 7) = .pointer (some ⟨wr.heap.size, 0, none⟩) := hs'.old' 7 (by kernel_rfl)
            go_simp
            exact Ord.post_val rfl rfl
          · refine Ord.owes_plain rfl fun ρ Os wo hs' hb hc' => ?_
            have h24 : ρ (.tmp 24) = .pointer (some ⟨wr.heap.size, 0, none⟩) := (hs'.new' 24 1 (by kernel_rfl)).1
            obtain ⟨x0, x1, x2, x3, x4⟩ := hd_cells (hb.blk HBX.out HNX.out)
            go_simp
            exact Ord.post_val rfl rfl
          · refine Ord.owes_plain rfl fun ρ Os wo hs' hb hc' => ?_
            have h7 : ρ (.tmp 7) = .pointer (some ⟨wr.heap.size, 0, none⟩) := hs'.old' 7 (by kernel_rfl)
            go_simp
            exact Ord.post_val rfl rfl
          · refine Ord.owes_plain rfl fun ρ Os wo hs' hb hc' => ?_
            have h26 : ρ (.tmp 26) = .pointer (some ⟨wr.heap.size, 2, none⟩) := (hs'.new' 26 3 (by kernel_rfl)).1
            obtain ⟨x0, x1, x2, x3, x4⟩ := hd_cells (hb.blk HBX.out HNX.out)
            go_simp
            exact Ord.post_val rfl rfl
          · refine Ord.owes_plain rfl fun ρ Os wo hs' hb hc' => ?_
            have h7 : ρ (.tmp 7) = .pointer (some ⟨wr.heap.size, 0, none⟩) := hs'.old' 7 (by kernel_rfl)
            go_simp
            exact Ord.post_val rfl rfl
          · refine Ord.owes_plain rfl fun ρ Os wo hs' hb hc' => ?_
            have h28 : ρ (.tmp 28) = .pointer (some ⟨wr.heap.size, 3, none⟩) := (hs'.new' 28 5 (by kernel_rfl)).1
            obtain ⟨x0, x1, x2, x3, x4⟩ := hd_cells (hb.blk HBX.out HNX.out)
            go_simp
            exact Ord.post_val rfl rfl
          · refine Ord.owes_plain rfl fun ρ Os wo hs' hb hc' => ?_
            have h7 : ρ (.tmp 7) = .pointer (some ⟨wr.heap.size, 0, none⟩) := hs'.old' 7 (by kernel_rfl)
            go_simp
            exact Ord.post_val rfl rfl
          · refine Ord.owes_plain rfl fun ρ Os wo hs' hb hc' => ?_
            have h30 : ρ (.tmp 30) = .pointer (some ⟨wr.heap.size, 4, none⟩) := (hs'.new' 30 7 (by kernel_rfl)).1
            obtain ⟨x0, x1, x2, x3, x4⟩ := hd_cells (hb.blk HBX.out HNX.out)
            go_simp
            exact Ord.post_val rfl rfl
          · refine Ord.owes_plain rfl fun ρ Os wo hs' hb hc' => ?_
            have h23 : ρ (.tmp 23) = u5 := (hs'.new' 23 0 (by kernel_rfl)).1
            have h25 : ρ (.tmp 25) = .string x.box := (hs'.new' 25 2 (by kernel_rfl)).1
            have h27 : ρ (.tmp 27) = .string x.to := (hs'.new' 27 4 (by kernel_rfl)).1
            have h29 : ρ (.tmp 29) = .string x.place := (hs'.new' 29 6 (by kernel_rfl)).1
            have h31 : ρ (.tmp 31) = .int .i64 x.day := (hs'.new' 31 8 (by kernel_rfl)).1
            have hf := hs'.func 29
            go_simp
            exact (SR.out wo (HD.out.keep hb.undrew HOFF.out)).mono fun e w' ⟨he, hb'⟩ => ⟨_, he, Ord.post_vals rfl rfl hb'⟩
          · refine Ord.owes_plain rfl fun ρ Os wo hs' hb hc' => ?_
            have h4 : ρ (.tmp 4) = p := hs'.old' 4 (by kernel_rfl)
            exact Any.ok_move (Ord.post_val rfl h4)
          · refine Ord.owes_plain rfl fun ρ Os wo hs' hb hc' => ?_
            have h7 : ρ (.tmp 7) = .pointer (some ⟨wr.heap.size, 0, none⟩) := hs'.old' 7 (by kernel_rfl)
            go_simp
            exact Ord.post_val rfl rfl
          · refine Ord.owes_plain rfl fun ρ Os wo hs' hb hc' => ?_
            have h34 : ρ (.tmp 34) = .pointer (some ⟨wr.heap.size, 0, none⟩) := (hs'.new' 34 11 (by kernel_rfl)).1
            obtain ⟨x0, x1, x2, x3, x4⟩ := hd_cells (hb.blk HBX.out HNX.out)
            go_simp
            exact Ord.post_val rfl rfl
          · refine Ord.owes_plain rfl fun ρ Os wo hs' hb hc' => ?_
            have h7 : ρ (.tmp 7) = .pointer (some ⟨wr.heap.size, 0, none⟩) := hs'.old' 7 (by kernel_rfl)
            go_simp
            exact Ord.post_val rfl rfl
          · refine Ord.owes_plain rfl fun ρ Os wo hs' hb hc' => ?_
            have h36 : ρ (.tmp 36) = .pointer (some ⟨wr.heap.size, 2, none⟩) := (hs'.new' 36 13 (by kernel_rfl)).1
            obtain ⟨x0, x1, x2, x3, x4⟩ := hd_cells (hb.blk HBX.out HNX.out)
            go_simp
            exact Ord.post_val rfl rfl
          · refine Ord.owes_plain rfl fun ρ Os wo hs' hb hc' => ?_
            have h7 : ρ (.tmp 7) = .pointer (some ⟨wr.heap.size, 0, none⟩) := hs'.old' 7 (by kernel_rfl)
            go_simp
            exact Ord.post_val rfl rfl
          · refine Ord.owes_plain rfl fun ρ Os wo hs' hb hc' => ?_
            have h38 : ρ (.tmp 38) = .pointer (some ⟨wr.heap.size, 3, none⟩) := (hs'.new' 38 15 (by kernel_rfl)).1
            obtain ⟨x0, x1, x2, x3, x4⟩ := hd_cells (hb.blk HBX.out HNX.out)
            go_simp
            exact Ord.post_val rfl rfl
          · refine Ord.owes_plain rfl fun ρ Os wo hs' hb hc' => ?_
            have h7 : ρ (.tmp 7) = .pointer (some ⟨wr.heap.size, 0, none⟩) := hs'.old' 7 (by kernel_rfl)
            go_simp
            exact Ord.post_val rfl rfl
          · refine Ord.owes_plain rfl fun ρ Os wo hs' hb hc' => ?_
            have h40 : ρ (.tmp 40) = .pointer (some ⟨wr.heap.size, 4, none⟩) := (hs'.new' 40 17 (by kernel_rfl)).1
            obtain ⟨x0, x1, x2, x3, x4⟩ := hd_cells (hb.blk HBX.out HNX.out)
            go_simp
            exact Ord.post_val rfl rfl
          · refine Ord.owes_plain rfl fun ρ Os wo hs' hb hc' => ?_
            have h33 : ρ (.tmp 33) = p := (hs'.new' 33 10 (by kernel_rfl)).1
            have h35 : ρ (.tmp 35) = .string x.box := (hs'.new' 35 12 (by kernel_rfl)).1
            have h37 : ρ (.tmp 37) = .string x.to := (hs'.new' 37 14 (by kernel_rfl)).1
            have h39 : ρ (.tmp 39) = .string x.place := (hs'.new' 39 16 (by kernel_rfl)).1
            have h41 : ρ (.tmp 41) = .int .i64 x.day := (hs'.new' 41 18 (by kernel_rfl)).1
            have hf := hs'.func 22
            go_simp
            exact (SP.out wo (HCX.out.stands (Keep.refl F _) hb.undrew hb.size hs'.here)).mono fun e w' ⟨he, hk', F', hc', hF'⟩ => ⟨_, he, Ord.post_turn ⟨rfl, hc'⟩ hk' hF'⟩
          · refine Ord.owes_plain rfl fun ρ Os wo hs' hb hc' => ?_
            have h32 : ρ (.tmp 32) = .int .i64 E := (hs'.new' 32 9 (by kernel_rfl)).1
            exact Any.ok_assign (Ord.post_val rfl h32)
          · refine Ord.owes_plain rfl fun ρ Os wo hs' hb hc' => ?_
            exact Any.ok_assign (Ord.post_val rfl (hs'.new' 42 19 (by kernel_rfl)).1)
        · intro vals Os w' hk hkn hap hbd
          have h20 := (hkn 20 (by kernel_rfl)).1
          have h21 := (hkn 21 (by kernel_rfl)).1
          obtain ⟨-, hch⟩ := hkn 19 (by kernel_rfl)
          have hbd := hbd 19 (by kernel_rfl)
          have HCH := Lib.hid hch
          have HBD := Lib.hid hbd
          have HKF := Lib.hid hk
          generalize Os 19 = O at *
          clear hkn hap hbd hch hk
          have HOFO : Hid (Off O u5) := Lib.hid fun b hb hO => (HBD.out b hO).elim (fun h => by have := (HOWX.out.lt b hb).2; omega) (HOFF.out b hb)
          have HOW2 := Lib.hid (ownsRow_keep HOWX.out HKF.out HOFF.out)
          have HBW2 := Lib.hid (HKF.out.behind HBW.out HBW.out.size (fun k hk h => by have := HF.out k h; omega))
          have HFO : Hid (∀ b, O b → w.heap.size ≤ b) := Lib.hid fun b hO => (HBD.out b hO).elim (fun h => Nat.le_trans HBW.out.size h) (HF.out b)
          obtain ⟨x0, x1, x2, x3, x4⟩ := hd_cells (HKF.out.blk HBX.out HNX.out)
          have HL : Hid (done.length + 1 ≤ maxLen ∧ (done.length + 1) * 72 ≤ 140737488355328 ∧ w.heap.size ≤ w'.heap.size) := Lib.hid (by have h1 := HKL.out; have h2 := HBW2.out.size; simp only [maxLen]; omega)
          by_cases he : E = 0
          · have te : (E == 0) = true := by simp [he]
            have HEZ := Lib.hid he
            clear he
            go_wp2_with (first
              | (((with_reducible refine Any.wpl_push ?_ ?_ ?_ Try.underlying22 HI.out.1 HI.out.2.1 HI.out.2.2.1 HI.out.2.2.2 ?_ (by decide) ?_ (hd_one5 x) (HOW2.out) HL.out.1 HL.out.2.1 HL.out.2.2 ?_); rfl; rfl; rfl; rfl; rfl; intro v3 w3 hown3 hgrow3 hwho3); have HOWN3 := Lib.hid hown3; have HG3 := Lib.hid hgrow3; have HW3 := Lib.hid hwho3; clear hown3 hgrow3 hwho3)
              | fail)
            go_roundw
            case rel =>
              refine ⟨k + 1, O, by omega, by go_num, ?_, HFO.out, ?_, ?_, ?_⟩
              · rw [HT.out]
                exact HCH.out.keep (Keep.of_grown HG3.out) (fun b hO e => HOFO.out b e hO)
              · exact push_below HBW2.out HOW2.out HG3.out
              · rw [HT.out, doneB, if_pos HEZ.out, List.length_append, List.length_singleton, hdCells_append]
                simpa [hdCells, Hd.row] using HOWN3.out
              · intro b hb hO
                rcases HW3.out b hb with h | h
                · exact HOFO.out b h hO
                · have := HCH.out.lt b hO; omega
            case measure => simp [intOf]; omega
          · have te : (E == 0) = false := by simp [he]
            have HEZ := Lib.hid (show ¬ E = 0 from he)
            clear he
            go_wp2_with fail
            go_roundw
            case rel =>
              refine ⟨k + 1, O, by omega, by go_num, ?_, HFO.out, HBW2.out, ?_, HOFO.out⟩
              · rw [HT.out]
                exact HCH.out
              · rw [HT.out, doneB, if_neg HEZ.out]
                exact HOW2.out
            case measure => simp [intOf]; omega
      · have t1 := empty_no hfe
        have SR : Hid (∀ W, Sl W 5 u5 (done.map Hd.row) → Calls Try.prog 30 #[u5, .agg #[.string x.box, .string x.frm, .string x.to, .string x.place, .int .i64 x.day]] W (RetI W (stepE done x))) := Lib.hid fun W h => by
          rw [stepE, if_neg hfe]; exact refHands_any done x u5 W h HKL.out HFX.out
        have SP : Hid (∀ W, Chain W F p done → Calls Try.prog 23 #[p, .agg #[.string x.box, .string x.frm, .string x.to, .string x.place, .int .i64 x.day]] W (After W F (stepE done x) p (doneB (stepE done x) done x))) := Lib.hid fun W h => step_hand x hfe p done F W h HKL.out
        clear hfe
        generalize stepE done x = E at *
        go_wp2_with fail
        clear d0 d1 d2 d3 d4 t1
        refine Ord.region_lit (fun
          | 0 => Ord.val (u5)
          | 1 => Ord.val (.agg #[.string x.box, .string x.frm, .string x.to, .string x.place, .int .i64 x.day])
          | 2 => Ord.val (.int .i64 E)
          | 3 => Ord.val (p)
          | 4 => Ord.val (.agg #[.string x.box, .string x.frm, .string x.to, .string x.place, .int .i64 x.day])
          | 5 => ⟨fun v O w => v = .int .i64 E ∧ Chain w O p (doneB E done x), [], F⟩
          | 6 => Ord.val (.int .i64 E)
          | 7 => Ord.val (.int .i64 E)
          | _ => Ord.idle) (F) (by kernel_rfl) (by kernel_rfl) (by kernel_rfl) ?_ ?_ ?_ ?_
        · intro i _
          match i with
          | 0 => exact Ord.lasts_val _
          | 1 => exact Ord.lasts_val _
          | 2 => exact Ord.lasts_val _
          | 3 => exact Ord.lasts_val _
          | 4 => exact Ord.lasts_val _
          | 5 => exact ⟨fun v O w h b hb => h.2.lt b hb, fun v O w w' h h1 h2 h3 h4 => ⟨h.1, h.2.stands h1 h2 h3 h4⟩⟩
          | 6 => exact Ord.lasts_val _
          | 7 => exact Ord.lasts_val _
          | n + 8 => exact Ord.lasts_idle
        · refine ⟨fun k b _ hh => ?_, fun k b _ hh => ?_, fun k k' b _ _ hne h1 h2 => ?_⟩
          · match k, hh with
            | 0, hh => exact hh.elim
            | 1, hh => exact hh.elim
            | 2, hh => exact hh.elim
            | 3, hh => exact hh.elim
            | 4, hh => exact hh.elim
            | 5, hh => exact hh
            | 6, hh => exact hh.elim
            | 7, hh => exact hh.elim
            | m + 8, hh => exact hh.elim
          · match k, hh with
            | 0, hh => exact hh.elim
            | 1, hh => exact hh.elim
            | 2, hh => exact hh.elim
            | 3, hh => exact hh.elim
            | 4, hh => exact hh.elim
            | 5, hh => exact HCX.out.lt b hh
            | 6, hh => exact hh.elim
            | 7, hh => exact hh.elim
            | m + 8, hh => exact hh.elim
          · have a : (k = 5 ∧ (F) b) := by
              match k, h1 with
              | 0, hh => exact hh.elim
              | 1, hh => exact hh.elim
              | 2, hh => exact hh.elim
              | 3, hh => exact hh.elim
              | 4, hh => exact hh.elim
              | 5, hh => exact ⟨rfl, hh⟩
              | 6, hh => exact hh.elim
              | 7, hh => exact hh.elim
              | m + 8, hh => exact hh.elim
            have a' : (k' = 5 ∧ (F) b) := by
              match k', h2 with
              | 0, hh => exact hh.elim
              | 1, hh => exact hh.elim
              | 2, hh => exact hh.elim
              | 3, hh => exact hh.elim
              | 4, hh => exact hh.elim
              | 5, hh => exact ⟨rfl, hh⟩
              | 6, hh => exact hh.elim
              | 7, hh => exact hh.elim
              | m + 8, hh => exact hh.elim
            rcases a with ⟨rfl, a⟩ <;> rcases a' with ⟨rfl, a'⟩
            all_goals first | exact absurd rfl hne | (exact hne rfl)
        · refine ⟨?_, ?_, ?_, ?_, ?_, ?_, ?_, ?_, trivial⟩
          · refine Ord.owes_plain rfl fun ρ Os wo hs' hb hc' => ?_
            have h5 : ρ (.tmp 5) = u5 := hs'.old' 5 (by kernel_rfl)
            exact Any.ok_move (Ord.post_val rfl h5)
          · refine Ord.owes_plain rfl fun ρ Os wo hs' hb hc' => ?_
            have h7 : ρ (.tmp 7) = .pointer (some ⟨wr.heap.size, 0, none⟩) := hs'.old' 7 (by kernel_rfl)
            obtain ⟨x0, x1, x2, x3, x4⟩ := hd_cells (hb.blk HBX.out HNX.out)
            go_simp
            exact Ord.post_val rfl rfl
          · refine Ord.owes_plain rfl fun ρ Os wo hs' hb hc' => ?_
            have h43 : ρ (.tmp 43) = u5 := (hs'.new' 43 0 (by kernel_rfl)).1
            have h44 : ρ (.tmp 44) = .agg #[.string x.box, .string x.frm, .string x.to, .string x.place, .int .i64 x.day] := (hs'.new' 44 1 (by kernel_rfl)).1
            have hf := hs'.func 30
            go_simp
            exact (SR.out wo (HD.out.keep hb.undrew HOFF.out)).mono fun e w' ⟨he, hb'⟩ => ⟨_, he, Ord.post_vals rfl rfl hb'⟩
          · refine Ord.owes_plain rfl fun ρ Os wo hs' hb hc' => ?_
            have h4 : ρ (.tmp 4) = p := hs'.old' 4 (by kernel_rfl)
            exact Any.ok_move (Ord.post_val rfl h4)
          · refine Ord.owes_plain rfl fun ρ Os wo hs' hb hc' => ?_
            have h7 : ρ (.tmp 7) = .pointer (some ⟨wr.heap.size, 0, none⟩) := hs'.old' 7 (by kernel_rfl)
            obtain ⟨x0, x1, x2, x3, x4⟩ := hd_cells (hb.blk HBX.out HNX.out)
            go_simp
            exact Ord.post_val rfl rfl
          · refine Ord.owes_plain rfl fun ρ Os wo hs' hb hc' => ?_
            have h46 : ρ (.tmp 46) = p := (hs'.new' 46 3 (by kernel_rfl)).1
            have h47 : ρ (.tmp 47) = .agg #[.string x.box, .string x.frm, .string x.to, .string x.place, .int .i64 x.day] := (hs'.new' 47 4 (by kernel_rfl)).1
            have hf := hs'.func 23
            go_simp
            exact (SP.out wo (HCX.out.stands (Keep.refl F _) hb.undrew hb.size hs'.here)).mono fun e w' ⟨he, hk', F', hc', hF'⟩ => ⟨_, he, Ord.post_turn ⟨rfl, hc'⟩ hk' hF'⟩
          · refine Ord.owes_plain rfl fun ρ Os wo hs' hb hc' => ?_
            have h45 : ρ (.tmp 45) = .int .i64 E := (hs'.new' 45 2 (by kernel_rfl)).1
            exact Any.ok_assign (Ord.post_val rfl h45)
          · refine Ord.owes_plain rfl fun ρ Os wo hs' hb hc' => ?_
            exact Any.ok_assign (Ord.post_val rfl (hs'.new' 48 5 (by kernel_rfl)).1)
        · intro vals Os w' hk hkn hap hbd
          have h6 := (hkn 6 (by kernel_rfl)).1
          have h7 := (hkn 7 (by kernel_rfl)).1
          obtain ⟨-, hch⟩ := hkn 5 (by kernel_rfl)
          have hbd := hbd 5 (by kernel_rfl)
          have HCH := Lib.hid hch
          have HBD := Lib.hid hbd
          have HKF := Lib.hid hk
          generalize Os 5 = O at *
          clear hkn hap hbd hch hk
          have HOFO : Hid (Off O u5) := Lib.hid fun b hb hO => (HBD.out b hO).elim (fun h => by have := (HOWX.out.lt b hb).2; omega) (HOFF.out b hb)
          have HOW2 := Lib.hid (ownsRow_keep HOWX.out HKF.out HOFF.out)
          have HBW2 := Lib.hid (HKF.out.behind HBW.out HBW.out.size (fun k hk h => by have := HF.out k h; omega))
          have HFO : Hid (∀ b, O b → w.heap.size ≤ b) := Lib.hid fun b hO => (HBD.out b hO).elim (fun h => Nat.le_trans HBW.out.size h) (HF.out b)
          obtain ⟨x0, x1, x2, x3, x4⟩ := hd_cells (HKF.out.blk HBX.out HNX.out)
          have HL : Hid (done.length + 1 ≤ maxLen ∧ (done.length + 1) * 72 ≤ 140737488355328 ∧ w.heap.size ≤ w'.heap.size) := Lib.hid (by have h1 := HKL.out; have h2 := HBW2.out.size; simp only [maxLen]; omega)
          by_cases he : E = 0
          · have te : (E == 0) = true := by simp [he]
            have HEZ := Lib.hid he
            clear he
            go_wp2_with (first
              | (((with_reducible refine Any.wpl_push ?_ ?_ ?_ Try.underlying22 HI.out.1 HI.out.2.1 HI.out.2.2.1 HI.out.2.2.2 ?_ (by decide) ?_ (hd_one5 x) (HOW2.out) HL.out.1 HL.out.2.1 HL.out.2.2 ?_); rfl; rfl; rfl; rfl; rfl; intro v3 w3 hown3 hgrow3 hwho3); have HOWN3 := Lib.hid hown3; have HG3 := Lib.hid hgrow3; have HW3 := Lib.hid hwho3; clear hown3 hgrow3 hwho3)
              | fail)
            go_roundw
            case rel =>
              refine ⟨k + 1, O, by omega, by go_num, ?_, HFO.out, ?_, ?_, ?_⟩
              · rw [HT.out]
                exact HCH.out.keep (Keep.of_grown HG3.out) (fun b hO e => HOFO.out b e hO)
              · exact push_below HBW2.out HOW2.out HG3.out
              · rw [HT.out, doneB, if_pos HEZ.out, List.length_append, List.length_singleton, hdCells_append]
                simpa [hdCells, Hd.row] using HOWN3.out
              · intro b hb hO
                rcases HW3.out b hb with h | h
                · exact HOFO.out b h hO
                · have := HCH.out.lt b hO; omega
            case measure => simp [intOf]; omega
          · have te : (E == 0) = false := by simp [he]
            have HEZ := Lib.hid (show ¬ E = 0 from he)
            clear he
            go_wp2_with fail
            go_roundw
            case rel =>
              refine ⟨k + 1, O, by omega, by go_num, ?_, HFO.out, HBW2.out, ?_, HOFO.out⟩
              · rw [HT.out]
                exact HCH.out
              · rw [HT.out, doneB, if_neg HEZ.out]
                exact HOW2.out
            case measure => simp [intOf]; omega
    · have hkl : k = l.length := by omega
      go_wp2_with fail
      go_ret2
      rw [List.take_of_length_le (by omega)] at hch hown
      exact ⟨_, _, F, rfl, hbel, hch, hF, hown, hoff⟩
end Go.Proofs.Ytmjblefjaccocaa.Sc
