/- Behind any hand-overs each box is among what just one has, and that is who has it now; for every row. No condition. -/
import Derived.Test.YtmjblefjaccocaaCopy17
namespace Go.Proofs.Ytmjblefjaccocaa.Sc
open Go Go.RowKit Go.ChangeShapes Go.WideShapes Go.ChangeAt Mp

theorem zeroSt (w : World) : (zeroValue 9).run Try.prog w = .ok (.string ⟨#[]⟩) w := by kernel_rfl
theorem mput_key (l : Ents) (k : ByteArray) (v : Value) : k ∈ mkeys (mput l k v) := by
  by_cases h : k ∈ mkeys l
  · rw [mput_keys_old v h]; exact h
  · rw [mput_keys_new v h]; simp
theorem mem_mput_keys {l : Ents} {k k' : ByteArray} {v : Value} (h : k' ∈ mkeys l) : k' ∈ mkeys (mput l k v) := by
  by_cases hk : k ∈ mkeys l
  · rw [mput_keys_old v hk]; exact h
  · rw [mput_keys_new v hk]; simp [h]
/-- What was found: of the boxes of P each with who had it last. -/
def FoundIn (fm : Ents) (P : ByteArray → Prop) (last : ByteArray → ByteArray) : Prop := ∀ b, (P b → mget fm b = some (.string (last b))) ∧ (¬ P b → mget fm b = none)
theorem found_put {fm : Ents} {P P' : ByteArray → Prop} {last : ByteArray → ByteArray} {x who : ByteArray} (h : FoundIn fm P last) (hw : last x = who) (hP : ∀ b, P' b ↔ P b ∨ b = x) : FoundIn (mput fm x (.string who)) P' last := by
  subst hw
  intro b
  by_cases hb : b = x
  · subst hb
    rw [mget_mput_same]
    exact ⟨fun _ => rfl, fun hn => absurd ((hP b).2 (.inr rfl)) hn⟩
  · rw [mget_mput_other fm _ hb]
    exact ⟨fun hp => (h b).1 (((hP b).1 hp).resolve_right hb), fun hn => (h b).2 (fun hp => hn ((hP b).2 (.inl hp)))⟩
theorem found_same {fm : Ents} {P P' : ByteArray → Prop} {last : ByteArray → ByteArray} (h : FoundIn fm P last) (hP : ∀ b, P' b ↔ P b) : FoundIn fm P' last :=
  fun b => ⟨fun hp => (h b).1 ((hP b).1 hp), fun hn => (h b).2 (fun hp => hn ((hP b).2 hp))⟩
theorem found_len {fm : Ents} {B : List ByteArray} {last : ByteArray → ByteArray} (h : FoundIn fm (fun b => b ∈ B) last) (hn : (mkeys fm).Nodup) (hB : B.Nodup) : fm.length = B.length := by
  have hp : (mkeys fm).Perm B := (List.perm_ext_iff_of_nodup hn hB).2 fun b => by
    constructor
    · intro hb
      rcases Classical.em (b ∈ B) with h1 | h1
      · exact h1
      · exact absurd hb (mget_none.1 ((h b).2 h1))
    · intro hb
      rcases Classical.em (b ∈ mkeys fm) with h1 | h1
      · exact h1
      · have h2 := (h b).1 hb
        rw [mget_none.2 h1] at h2
        cases h2
  have := hp.length_eq
  simpa [mkeys] using this
/-- The boxes of those who are no longer to come. -/
def PO (done : List Hd) (todo : Ents) (b : ByteArray) : Prop := b ∈ boxesS done ∧ mget todo (lastTo done b) = none
theorem mem_held {done : List Hd} {who b : ByteArray} : b ∈ heldOf done who ↔ b ∈ boxesS done ∧ lastTo done b = who := by
  unfold heldOf
  rw [List.mem_filter]
  simp
theorem PO_next {done : List Hd} {todo : Ents} {who : ByteArray} (b : ByteArray) : PO done (mdel todo who) b ↔ PO done todo b ∨ b ∈ heldOf done who := by
  unfold PO
  rw [mem_held, mget_mdel]
  by_cases h : lastTo done b = who
  · simp only [h, if_true, and_true]
    constructor
    · exact fun h => .inr h
    · rintro (h | h)
      · exact h.1
      · exact h
  · simp only [h, if_false, and_false, or_false]
theorem held_nodup (done : List Hd) (who : ByteArray) : (heldOf done who).Nodup := (rising_nodup (boxesS_rising done)).filter _
theorem lastTo_in {l : List Hd} {pm : Ents} (hp : ∀ h ∈ l, h.to ∈ mkeys pm) {b : ByteArray} (hb : b ∈ boxesS (doneOf l)) : lastTo (doneOf l) b ∈ mkeys pm := by
  rcases List.eq_nil_or_concat (ownOf (doneOf l) b) with h | ⟨L, z, h⟩
  · exact absurd h (ownOf_pos hb)
  · rw [List.concat_eq_append] at h
    have e : lastTo (doneOf l) b = z.to := by rw [lastTo, h]; simp
    rw [e]
    have hz : z ∈ ownOf (doneOf l) b := by rw [h]; simp
    exact hp z (mem_doneOf (List.mem_filter.1 hz).1)
theorem asOf_box (l : List Hd) {b : ByteArray} (hb : b ∈ boxesS (doneOf l)) : ∃ pl, asOf (ownOf (doneOf l) b) 1048576 = (lastTo (doneOf l) b, pl, true) := by
  rcases List.eq_nil_or_concat (ownOf (doneOf l) b) with h | ⟨L, z, h⟩
  · exact absurd h (ownOf_pos hb)
  · rw [List.concat_eq_append] at h
    have e : lastTo (doneOf l) b = z.to := by rw [lastTo, h]; simp
    have hz : z ∈ ownOf (doneOf l) b := by rw [h]; simp
    exact ⟨z.place, by rw [e, h]; exact asOf_last _ _ (doneOf_day l z (List.mem_filter.1 hz).1)⟩
end Go.Proofs.Ytmjblefjaccocaa.Sc
namespace Go.Proofs.Ytmjblefjaccocaa.custodyOnce
open Go Go.RowKit Go.ChangeShapes Go.WideShapes Go.ChangeAt Go.ChangeMaps Sc Mp

set_option maxRecDepth 8000 in
set_option maxHeartbeats 4000000 in
theorem walk (w : World) (l : List Hd) (v : Value) (hs : Sl w 5 v (l.map Hd.row)) (hf : ∀ h ∈ l, h.fit) :
    Calls Try.prog 6 #[v] w (RetB w true) := by
  have hml : l.length ≤ 9223372036854775807 := by have := hs.len_le; simp only [List.length_map, maxLen] at this; omega
  obtain ⟨a, c, rfl⟩ : ∃ a c, v = .slice a l.length c := by simpa using hs.shape
  have hmm := @run_makeMap Try.prog
  have HS := Lib.hid hs
  have HF := Lib.hid hf
  clear hs hf
  go_enter Try.func6, Try.ntmps6
  go_wp2_with fail
  refine (long_any l _ w HS.out).mono ?_
  rintro e w1 ⟨b, rfl, hb, hb1⟩
  have HB1 := Lib.hid hb1
  clear hb1
  cases b with
  | true =>
    clear hb
    go_wp2_with (first | ((with_reducible refine (awake_any _).mono ?_); rintro e w9 ⟨rfl, hb9⟩; have HB9 := Lib.hid (HB1.out.trans (hb9.mono HB1.out.size)); clear hb9) | fail)
    go_ret
    exact retB rfl HB9.out
  | false =>
    have HN : Hid (l.length ≤ 60) := Lib.hid (hb rfl)
    have HN4 : Hid (l.length ≤ 4000) := Lib.hid (by have := HN.out; omega)
    have HD4 : Hid ((doneOf l).length ≤ 4000) := Lib.hid (by have := doneOf_len l; have := HN.out; omega)
    have HDF := Lib.hid (doneOf_fit HF.out)
    have HDD := Lib.hid (doneOf_day l)
    clear hb
    go_wp2_with (first
      | ((with_reducible refine (play_any l _ _ (HS.out.below HB1.out (Nat.le_refl _)) HN4.out HF.out).mono ?_); rintro e w2 ⟨p, v2, F, rfl, hb2, hc2, -, -, -⟩; have HB2 := Lib.hid (HB1.out.trans (hb2.mono HB1.out.size)); obtain ⟨bp, rfl⟩ : ∃ bp, p = .pointer (some ⟨bp, 0, none⟩) := (by obtain ⟨bp, bm, l, h, _⟩ := hc2; exact ⟨bp, h⟩); have HC2 := Lib.hid hc2; clear hb2 hc2)
      | fail)
    obtain ⟨bpm, hbpm⟩ : ∃ bpm, bpm = w2.heap.size := ⟨_, rfl⟩
    rw [← hbpm]
    have HBP := Lib.hid hbpm
    clear hbpm
    go_loopw [32] (fun i wr => ∃ (k : Nat) (pm : Ents), k ≤ l.length ∧ i = .int .i64 k ∧ MapAt wr bpm pm ∧ (∀ h ∈ l.take k, h.to ∈ mkeys pm) ∧ Chain wr F (.pointer (some ⟨bp, 0, none⟩)) (doneOf l) ∧ Below w.heap.size w wr) (fun i _ => l.length - (intOf i).toNat)
    case atStart => exact ⟨0, [], Nat.zero_le _, rfl, by rw [HBP.out]; exact MapAt.made w2, by simp, HC2.out.below (one_below _ _), HB2.out.trans ((one_below _ _).mono HB2.out.size)⟩
    case round =>
    obtain ⟨k, pm, hk, rfl, hpm, hin, hch, hbel⟩ := hrel
    have HPM0 := Lib.hid hpm
    have HIN := Lib.hid hin
    have HCH := Lib.hid hch
    have HBEL := Lib.hid hbel
    by_cases hlt : k < l.length
    · obtain ⟨b, off, rfl, -, hb, hc⟩ := HS.out.at (i := k) (by simpa using hlt)
      have hr := hc k l[k].row (by simp [hlt])
      have d0 : wr.cell? ⟨b, off + k * 5, none⟩ = some (.string l[k].box) := (hbel.cell (p := ⟨b, off + k * 5, none⟩) hb).trans (hr 0 _ rfl)
      have d1 : wr.cell? ⟨b, off + k * 5 + 1, none⟩ = some (.string l[k].frm) := (hbel.cell (p := ⟨b, off + k * 5 + 1, none⟩) hb).trans (hr 1 _ rfl)
      have d2 : wr.cell? ⟨b, off + k * 5 + 2, none⟩ = some (.string l[k].to) := (hbel.cell (p := ⟨b, off + k * 5 + 2, none⟩) hb).trans (hr 2 _ rfl)
      have d3 : wr.cell? ⟨b, off + k * 5 + 3, none⟩ = some (.string l[k].place) := (hbel.cell (p := ⟨b, off + k * 5 + 3, none⟩) hb).trans (hr 3 _ rfl)
      have d4 : wr.cell? ⟨b, off + k * 5 + 4, none⟩ = some (.int .i64 l[k].day) := (hbel.cell (p := ⟨b, off + k * 5 + 4, none⟩) hb).trans (hr 4 _ rfl)
      have HTK := Lib.hid (List.take_succ_eq_append_getElem hlt)
      clear hr hc hbel hpm hin hch
      generalize l[k] = x at *
      have HBO := Lib.hid (one_below wr (.cells #[.string x.box, .string x.frm, .string x.to, .string x.place, .int .i64 x.day] 41))
      have HBX : Hid ((wr.alloc (.cells #[.string x.box, .string x.frm, .string x.to, .string x.place, .int .i64 x.day] 41)).heap[wr.heap.size]? = some (.cells #[.string x.box, .string x.frm, .string x.to, .string x.place, .int .i64 x.day] 41 (0, 0))) := Lib.hid (heap_alloc_new _ _)
      have HNX : Hid (¬ wr.heap.size = bpm) := Lib.hid (by have := HPM0.out.lt; omega)
      have HPM := Lib.hid (MapAt.keep HPM0.out (Keep.alloc (fun _ => False) wr (.cells #[.string x.box, .string x.frm, .string x.to, .string x.place, .int .i64 x.day] 41)) (fun h => h))
      have HCX := Lib.hid (HCH.out.below HBO.out)
      have HBEX := Lib.hid (HBEL.out.trans (HBO.out.mono HBEL.out.size))
      go_wp2_with fail
      clear d0 d1 d2 d3 d4
      refine Ord.region_lit (fun
        | 0 => Ord.val (.map (some bpm))
        | 1 => Ord.val (.pointer (some ⟨wr.heap.size, 2, none⟩))
        | 2 => Ord.val (.string x.to)
        | 3 => Ord.val (.map (some bpm))
        | 4 => Ord.val (.pointer (some ⟨wr.heap.size, 1, none⟩))
        | 5 => Ord.val (.string x.frm)
        | 6 => ⟨fun _ O w => MapAt w bpm (mput pm x.to (.bool true)) ∧ ∀ b, O b ↔ b = bpm, [], fun b => b = bpm⟩
        | 7 => ⟨fun _ O w => MapAt w bpm (mput (mput pm x.to (.bool true)) x.frm (.bool true)) ∧ ∀ b, O b ↔ b = bpm, [6], fun _ => False⟩
        | _ => Ord.idle) (fun b => b = bpm) (by kernel_rfl) (by kernel_rfl) (by kernel_rfl) ?_ ?_ ?_ ?_
      · intro i _
        match i with
        | 0 => exact Ord.lasts_val _
        | 1 => exact Ord.lasts_val _
        | 2 => exact Ord.lasts_val _
        | 3 => exact Ord.lasts_val _
        | 4 => exact Ord.lasts_val _
        | 5 => exact Ord.lasts_val _
        | 6 => exact ⟨fun v O w h b hb => by rw [(h.2 b).1 hb]; exact h.1.lt, fun v O w w' h _ _ _ hs => ⟨h.1.same (hs bpm ((h.2 bpm).2 rfl)), h.2⟩⟩
        | 7 => exact ⟨fun v O w h b hb => by rw [(h.2 b).1 hb]; exact h.1.lt, fun v O w w' h _ _ _ hs => ⟨h.1.same (hs bpm ((h.2 bpm).2 rfl)), h.2⟩⟩
        | n + 8 => exact Ord.lasts_idle
      · refine ⟨fun k b _ hh => ?_, fun k b _ hh => ?_, fun k k' b _ _ hne h1 h2 => ?_⟩
        · match k, hh with
          | 0, hh => exact hh.elim
          | 1, hh => exact hh.elim
          | 2, hh => exact hh.elim
          | 3, hh => exact hh.elim
          | 4, hh => exact hh.elim
          | 5, hh => exact hh.elim
          | 6, hh => exact hh
          | 7, hh => exact hh.elim
          | m + 8, hh => exact hh.elim
        · match k, hh with
          | 0, hh => exact hh.elim
          | 1, hh => exact hh.elim
          | 2, hh => exact hh.elim
          | 3, hh => exact hh.elim
          | 4, hh => exact hh.elim
          | 5, hh => exact hh.elim
          | 6, hh => exact (hh ▸ HPM.out.lt)
          | 7, hh => exact hh.elim
          | m + 8, hh => exact hh.elim
        · have a : (k = 6 ∧ (fun b => b = bpm) b) := by
            match k, h1 with
            | 0, hh => exact hh.elim
            | 1, hh => exact hh.elim
            | 2, hh => exact hh.elim
            | 3, hh => exact hh.elim
            | 4, hh => exact hh.elim
            | 5, hh => exact hh.elim
            | 6, hh => exact ⟨rfl, hh⟩
            | 7, hh => exact hh.elim
            | m + 8, hh => exact hh.elim
          have a' : (k' = 6 ∧ (fun b => b = bpm) b) := by
            match k', h2 with
            | 0, hh => exact hh.elim
            | 1, hh => exact hh.elim
            | 2, hh => exact hh.elim
            | 3, hh => exact hh.elim
            | 4, hh => exact hh.elim
            | 5, hh => exact hh.elim
            | 6, hh => exact ⟨rfl, hh⟩
            | 7, hh => exact hh.elim
            | m + 8, hh => exact hh.elim
          rcases a with ⟨rfl, a⟩ <;> rcases a' with ⟨rfl, a'⟩
          all_goals first | exact absurd rfl hne | (exact hne rfl)
      · refine ⟨?_, ?_, ?_, ?_, ?_, ?_, ?_, ?_, trivial⟩
        · refine Ord.owes_plain rfl fun ρ Os wo hs' hb hc' => ?_
          have h5 : ρ (.tmp 5) = .map (some bpm) := hs'.old' 5 (by kernel_rfl)
          exact Any.ok_move (Ord.post_val rfl h5)
        · refine Ord.owes_plain rfl fun ρ Os wo hs' hb hc' => ?_
          have h7 : ρ (.tmp 7) = .pointer (some ⟨wr.heap.size, 0, none⟩) := hs'.old' 7 (by kernel_rfl)
          go_simp
          exact Ord.post_val rfl rfl
        · refine Ord.owes_plain rfl fun ρ Os wo hs' hb hc' => ?_
          have h37 : ρ (.tmp 37) = .pointer (some ⟨wr.heap.size, 2, none⟩) := (hs'.new' 37 1 (by kernel_rfl)).1
          obtain ⟨x0, x1, x2, x3, x4⟩ := hd_cells (hb.blk HBX.out HNX.out)
          go_simp
          exact Ord.post_val rfl rfl
        · refine Ord.owes_plain rfl fun ρ Os wo hs' hb hc' => ?_
          have h5 : ρ (.tmp 5) = .map (some bpm) := hs'.old' 5 (by kernel_rfl)
          exact Any.ok_move (Ord.post_val rfl h5)
        · refine Ord.owes_plain rfl fun ρ Os wo hs' hb hc' => ?_
          have h7 : ρ (.tmp 7) = .pointer (some ⟨wr.heap.size, 0, none⟩) := hs'.old' 7 (by kernel_rfl)
          go_simp
          exact Ord.post_val rfl rfl
        · refine Ord.owes_plain rfl fun ρ Os wo hs' hb hc' => ?_
          have h40 : ρ (.tmp 40) = .pointer (some ⟨wr.heap.size, 1, none⟩) := (hs'.new' 40 4 (by kernel_rfl)).1
          obtain ⟨x0, x1, x2, x3, x4⟩ := hd_cells (hb.blk HBX.out HNX.out)
          go_simp
          exact Ord.post_val rfl rfl
        · refine Ord.owes_plain rfl fun ρ Os wo hs' hb hc' => ?_
          have h36 : ρ (.tmp 36) = .map (some bpm) := (hs'.new' 36 0 (by kernel_rfl)).1
          have h38 : ρ (.tmp 38) = .string x.to := (hs'.new' 38 2 (by kernel_rfl)).1
          have hmap : MapAt wo bpm pm := HPM.out.same (hs'.here bpm rfl)
          refine Mp.ok_update (key := x.to) (v := .bool true) Try.underlying43 Try.underlying9 h36 h38 (hc' _) hmap fun w' h1 h2 h3 => ?_
          exact ⟨fun b => b = bpm, ⟨h1, fun _ => Iff.rfl⟩, ⟨h2.os, h2.tape, h2.output⟩, h2.size, fun b hlt _ hne => h2.block b hlt (fun e => hne (Option.some.inj e)), fun b hb => .inr (.inr hb)⟩
        · refine Ord.owes_plain rfl fun ρ Os wo hs' hb hc' => ?_
          have h39 : ρ (.tmp 39) = .map (some bpm) := (hs'.new' 39 3 (by kernel_rfl)).1
          have h41 : ρ (.tmp 41) = .string x.frm := (hs'.new' 41 5 (by kernel_rfl)).1
          obtain ⟨_, hmap, hO⟩ := hs'.took 6 (List.mem_singleton.2 rfl)
          refine Mp.ok_update (key := x.frm) (v := .bool true) Try.underlying43 Try.underlying9 h39 h41 (hc' _) hmap fun w' h1 h2 h3 => ?_
          exact ⟨fun b => b = bpm, ⟨h1, fun _ => Iff.rfl⟩, ⟨h2.os, h2.tape, h2.output⟩, h2.size, fun b hlt hne _ => h2.block b hlt (fun e => hne 6 (List.mem_singleton.2 rfl) ((hO b).2 (Option.some.inj e))), fun b hb => .inl ⟨6, List.mem_singleton.2 rfl, (hO b).2 hb⟩⟩
      · intro vals Os w' hk hkn hap hbd
        obtain ⟨k1, -⟩ := hkn 7 (by kernel_rfl)
        have HKF := Lib.hid hk
        have K1 := Lib.hid k1
        clear hkn hap hbd hk k1
        go_wp2_with fail
        go_roundw
        case rel =>
          refine ⟨k + 1, _, by omega, by go_num, K1.out, ?_, HCX.out.keep HKF.out (fun b hb e => by have h1 := HC2.out.lt b hb; have h2 := HBP.out; omega), HKF.out.behind HBEX.out HBEX.out.size (fun k hk e => by have h2 := HBP.out; have h3 := HB2.out.size; omega)⟩
          intro h hh
          rw [HTK.out] at hh
          rcases List.mem_append.1 hh with h1 | h1
          · exact mem_mput_keys (mem_mput_keys (HIN.out h h1))
          · rw [List.mem_singleton.1 h1]
            exact mem_mput_keys (mput_key _ _ _)
        case measure => simp [intOf]; omega
    · have hke : k = l.length := by omega
      have HINA : Hid (∀ h ∈ l, h.to ∈ mkeys pm) := Lib.hid (by have := hin; rw [hke, List.take_length] at this; exact this)
      clear hke
      clear hbel hpm hin hch
      obtain ⟨bf, hbf⟩ : ∃ bf, bf = wr.heap.size := ⟨_, rfl⟩
      have HBFE := Lib.hid hbf
      have HPM1 := Lib.hid (MapAt.keep HPM0.out (Keep.alloc (fun _ => False) wr (.map #[] 0)) (fun h => h))
      have HFM1 : Hid (MapAt (wr.alloc (.map #[] 0)) bf []) := Lib.hid (by rw [hbf]; exact MapAt.made wr)
      have HCH1 := Lib.hid (HCH.out.below (one_below wr (.map #[] 0)))
      have HBE1 := Lib.hid (HBEL.out.trans ((one_below wr (.map #[] 0)).mono HBEL.out.size))
      have HNE : Hid (bpm < bf ∧ ∀ b, F b → b < bf) := Lib.hid ⟨by have := HPM0.out.lt; omega, fun b h => by have := HCH.out.lt b h; omega⟩
      go_wp2_with (first
        | ((with_reducible refine Mp.wpl_range ?_ ?_ Try.underlying43 HPM1.out ?_); rfl; rfl; intro w4 hit4 hal4; have HIT4 := Lib.hid hit4; have HAL4 := Lib.hid hal4; clear hit4 hal4; go_frame)
        | fail)
      rw [← hbf]
      clear hbf
      have HR4 : Hid ((wr.alloc (.map #[] 0)).heap.size = bf + 1) := Lib.hid (by rw [HBFE.out]; simp)
      rw [HR4.out] at HIT4
      rw [HR4.out]
      have HAB4 : Hid (Below (wr.alloc (.map #[] 0)).heap.size (wr.alloc (.map #[] 0)) w4) := Lib.hid (by obtain ⟨o, rfl⟩ := HAL4.out; exact one_below _ _)
      go_loopw [9] (fun _ wo => ∃ (fm todo : Ents), Chain wo F (.pointer (some ⟨bp, 0, none⟩)) (doneOf l) ∧ MapAt wo bf fm ∧ FoundIn fm (PO (doneOf l) todo) (lastTo (doneOf l)) ∧ IterAt wo (bf + 1) bpm pm todo ∧ Below w.heap.size w wo ∧ (mkeys todo).Nodup) (fun _ wo => itLeft wo (bf + 1) bpm)
      case atStart =>
        exact ⟨[], pm, HCH1.out.below HAB4.out, MapAt.keep HFM1.out (Keep.of_below (F := fun _ => False) HAB4.out) (fun h => h), fun b => ⟨fun ⟨h1, h2⟩ => absurd (lastTo_in HINA.out h1) (mget_none.1 h2), fun _ => rfl⟩, HIT4.out, HBE1.out.trans (HAB4.out.mono HBE1.out.size), HPM0.out.nodup⟩
      case round =>
      obtain ⟨fm, todo, hcw, hmf, hfo, hit, hbw, hnd⟩ := hrel
      have HCW := Lib.hid hcw
      have HMF := Lib.hid hmf
      have HFO := Lib.hid hfo
      have HIT := Lib.hid hit
      have HBW := Lib.hid hbw
      have HND := Lib.hid hnd
      clear hcw hmf hfo hit hbw hnd
      obtain ⟨wo, hwo⟩ : ∃ wo, wo = wr := ⟨_, rfl⟩
      subst hwo
      go_wp2_with (first
        | ((with_reducible refine Mp.wpl_next ?_ ?_ HIT.out ?_ ?_); rfl; rfl)
        | fail)
      · intro h0
        have HFB : Hid (FoundIn fm (fun b => b ∈ boxesS (doneOf l)) (lastTo (doneOf l))) := Lib.hid (found_same HFO.out (fun b => by rw [h0]; simp [PO, mget]))
        have HFL : Hid (fm.length = (boxesS (doneOf l)).length) := Lib.hid (found_len HFB.out HMF.out.nodup (rising_nodup (boxesS_rising _)))
        have hbl : (boxesS (doneOf l)).length ≤ 4000 := by have h1 := boxesS_len (doneOf l); have h2 := HD4.out; omega
        clear h0
        go_wp2_with (first
          | ((with_reducible refine (boxes_any (.pointer (some ⟨bp, 0, none⟩)) (doneOf l) F _ HCW.out HD4.out HDF.out).mono ?_); rintro e wb ⟨vB, rfl, hoB, hbB⟩; have HBB := Lib.hid (HBW.out.trans (hbB.mono HBW.out.size)); have HCB := Lib.hid (HCW.out.below hbB); have HMB := Lib.hid (MapAt.keep HMF.out (Keep.of_below (F := fun _ => False) hbB) (fun h => h)); obtain ⟨aB, cB, rfl⟩ := own_shape hoB; have HRB := Lib.hid (own_strs hoB rfl); clear hbB hoB)
          | fail)
        obtain ⟨B, hB⟩ : ∃ B, B = boxesS (doneOf l) := ⟨_, rfl⟩
        rw [← hB] at HRB HFL HFB hbl ⊢
        have HBB2 := Lib.hid hB
        clear hB
        go_loopw [72] (fun i wi => ∃ j : Nat, j ≤ B.length ∧ i = .int .i64 j ∧ Below wb.heap.size wb wi) (fun i _ => B.length - (intOf i).toNat)
        case atStart => exact ⟨0, Nat.zero_le _, rfl, Below.refl _ _⟩
        case round =>
        obtain ⟨j, hj, rfl, hbi⟩ := hrel
        have HBI := Lib.hid hbi
        have HCI := Lib.hid (HCB.out.below hbi)
        have HMI := Lib.hid (MapAt.keep HMB.out (Keep.of_below (F := fun _ => False) hbi) (fun h => h))
        by_cases hjl : j < B.length
        · obtain ⟨b, off, rfl, -, hb, hc⟩ := HRB.out.at (i := j) (by simpa using hjl)
          have d0 : wr.cell? ⟨b, off + j, none⟩ = some (.string B[j]) := (hbi.cell (p := ⟨b, off + j, none⟩) hb).trans (by have := hc j (stRow B[j]) (by simp [hjl]) 0 _ rfl; rwa [Nat.mul_one] at this)
          have HXB : Hid (B[j] ∈ boxesS (doneOf l)) := Lib.hid (by rw [← HBB2.out]; exact List.getElem_mem hjl)
          have HMG : Hid (mget fm B[j] = some (.string (lastTo (doneOf l) B[j]))) := Lib.hid ((HFB.out _).1 (List.getElem_mem hjl))
          clear hc hbi
          generalize B[j] = x at *
          obtain ⟨pl, hpl⟩ := asOf_box l HXB.out
          have HPL := Lib.hid hpl
          have HGD : Hid ((mget fm x).getD (.string ⟨#[]⟩) = .string (lastTo (doneOf l) x)) := Lib.hid (by rw [HMG.out]; rfl)
          clear hpl
          go_wp2_with (first
            | ((with_reducible refine (now_any x (.pointer (some ⟨bp, 0, none⟩)) (doneOf l) F _ HCI.out HD4.out).mono ?_); rintro e wn ⟨rfl, hbn⟩; rw [HPL.out]; have HBN := Lib.hid (HBI.out.trans (hbn.mono HBI.out.size)); have HMN := Lib.hid (MapAt.keep HMI.out (Keep.of_below (F := fun _ => False) hbn) (fun h => h)); clear hbn)
            | ((with_reducible refine Mp.wpl_val ?_ ?_ ?_ Try.underlying44 Try.underlying9 (zeroSt _) HMN.out HGD.out ?_); rfl; rfl; rfl)
            | fail)
          go_roundw
          case rel => exact ⟨j + 1, by omega, by go_num, HBN.out⟩
          case measure => simp [intOf]; omega
        · clear hbi
          go_wp2_with (first
            | ((with_reducible refine Mp.wpl_len ?_ ?_ Try.underlying44 HMI.out ?_); rfl; rfl; rw [HFL.out])
            | ((with_reducible refine (boxes_any (.pointer (some ⟨bp, 0, none⟩)) (doneOf l) F _ HCI.out HD4.out HDF.out).mono ?_); rintro e wz ⟨vZ, rfl, hoZ, hbZ⟩; rw [← HBB2.out] at hoZ; obtain ⟨aZ, cZ, rfl⟩ := own_shape hoZ; have HBZ := Lib.hid ((HBB.out.trans (HBI.out.mono HBB.out.size)).trans (hbZ.mono (Nat.le_trans HBB.out.size HBI.out.size))); clear hbZ hoZ)
            | ((with_reducible refine (awake_any _).mono ?_); rintro e wy ⟨rfl, hby⟩; have HBY := Lib.hid (HBZ.out.trans (hby.mono HBZ.out.size)); clear hby)
            | fail)
          go_ret
          exact retB rfl HBY.out
      · intro key sv wc hmem hitc hgc hsc hen
        have HKC := Lib.hid (Keep.of_grown hgc)
        have HTD := Lib.hid hmem
        have HITC := Lib.hid hitc
        have HCC := Lib.hid (HCW.out.keep HKC.out (fun b hb e => by have h1 := HNE.out.2 b hb; have h2 := Option.some.inj e; omega))
        have HMC := Lib.hid (MapAt.keep HMF.out HKC.out (fun e => by have h2 := Option.some.inj e; omega))
        have HBFW : Hid (w.heap.size ≤ bf ∧ bf < wc.heap.size) := Lib.hid ⟨by rw [HBFE.out]; exact HBEL.out.size, HMC.out.lt⟩
        have HBC := Lib.hid (HKC.out.behind HBW.out HBW.out.size (fun k hk e => by have h2 := Option.some.inj e; have h3 := HBFW.out.1; omega))
        clear hmem hitc hgc hsc
        go_wp2_with (first
          | ((with_reducible refine (held_any key (.pointer (some ⟨bp, 0, none⟩)) (doneOf l) F _ HCC.out HD4.out HDF.out HDD.out).mono ?_); rintro e wd ⟨vH, rfl, hoH, hbH⟩; have HBH := Lib.hid (HBC.out.trans (hbH.mono HBC.out.size)); have HCD := Lib.hid (HCC.out.below hbH); have HMD := Lib.hid (MapAt.keep HMC.out (Keep.of_below (F := fun _ => False) hbH) (fun h => h)); have HITD := Lib.hid (IterAt.keep HITC.out (Keep.of_below (F := fun _ => False) hbH) (fun h => h) (fun h => h)); have HOF : Hid (Off (fun b => b = bf) vH) := Lib.hid (ownsRow_off hoH (fun b h1 _ h2 => by have := HBFW.out.2; omega)); obtain ⟨aH, cH, rfl⟩ := own_shape hoH; have HRH := Lib.hid (own_strs hoH rfl); clear hbH hoH)
          | fail)
        clear hen
        obtain ⟨H, hH⟩ : ∃ H, H = heldOf (doneOf l) key := ⟨_, rfl⟩
        rw [← hH] at HRH HOF ⊢
        have HHE := Lib.hid hH
        have hhl : H.length ≤ 4000 := by rw [hH]; have h1 := List.length_filter_le (fun b => decide (lastTo (doneOf l) b = key)) (boxesS (doneOf l)); have h2 := boxesS_len (doneOf l); have h3 := HD4.out; unfold heldOf; omega
        clear hH
        go_loopw [54] (fun i wi => ∃ (j : Nat) (fmj : Ents), j ≤ H.length ∧ i = .int .i64 j ∧ Keep (fun b => b = bf) wd wi ∧ MapAt wi bf fmj ∧ FoundIn fmj (fun b => PO (doneOf l) todo b ∨ b ∈ H.take j) (lastTo (doneOf l))) (fun i _ => H.length - (intOf i).toNat)
        case atStart => exact ⟨0, fm, Nat.zero_le _, rfl, Keep.refl _ _, HMD.out, found_same HFO.out (fun b => by simp)⟩
        case round =>
        obtain ⟨j, fmj, hj, rfl, hki, hmi, hfi⟩ := hrel
        have HKI := Lib.hid hki
        have HMI := Lib.hid hmi
        have HFI := Lib.hid hfi
        clear hki hmi hfi
        by_cases hjl : j < H.length
        · obtain ⟨b, off, rfl, -, hb, hc⟩ := HRH.out.at (i := j) (by simpa using hjl)
          have d0 : wr.cell? ⟨b, off + j, none⟩ = some (.string H[j]) := (HKI.out.cell hb (HOF.out b rfl)).trans (by have := hc j (stRow H[j]) (by simp [hjl]) 0 _ rfl; rwa [Nat.mul_one] at this)
          have HXH : Hid (H[j] ∈ boxesS (doneOf l) ∧ lastTo (doneOf l) H[j] = key) := Lib.hid (by
            have h1 : ∀ y ∈ H, y ∈ boxesS (doneOf l) ∧ lastTo (doneOf l) y = key := by rw [HHE.out]; exact fun y hy => mem_held.1 hy
            exact h1 _ (List.getElem_mem hjl))
          have HMISS : Hid (mget fmj H[j] = none) := Lib.hid ((HFI.out _).2 (by
            rintro (⟨_, h1⟩ | h1)
            · rw [HXH.out.2, mget_of_mem HND.out HTD.out] at h1
              cases h1
            · have h2 : H.Nodup := by have h3 := HHE.out; rw [h3]; exact held_nodup _ _
              obtain ⟨i, hi, he⟩ := List.getElem_of_mem h1
              rw [List.getElem_take] at he
              have hi' : i < j := by simp at hi; omega
              have h4 := (List.nodup_iff_pairwise_ne.1 h2)
              exact (List.pairwise_iff_getElem.1 h4 i j (by omega) hjl hi') he))
          have HTK := Lib.hid (List.take_succ_eq_append_getElem hjl)
          clear hc
          generalize H[j] = x at *
          go_wp2_with (first
            | ((with_reducible refine Mp.wpl_miss ?_ ?_ ?_ Try.underlying44 Try.underlying9 (zeroSt _) HMI.out HMISS.out ?_); rfl; rfl; rfl)
            | ((with_reducible refine Mp.wpl_update (b := bf) (l := fmj) (key := x) (v := .string key) ?_ ?_ ?_ ?_ Try.underlying44 Try.underlying9 HMI.out ?_); rfl; rfl; rfl; rfl; intro wu hmu hgu hsu; have HMU := Lib.hid hmu; have HKU := Lib.hid (HKI.out.trans (Keep.of_grown hgu) (fun i _ e => (Option.some.inj e).symm)); clear hmu hgu hsu)
            | fail)
          go_roundw
          case rel => exact ⟨j + 1, _, by omega, by go_num, HKU.out, HMU.out, found_put HFI.out HXH.out.2 (fun b => by rw [HTK.out, List.mem_append, List.mem_singleton, or_assoc])⟩
          case measure => simp [intOf]; omega
        · have hje : j = H.length := by omega
          go_wp2_with fail
          go_roundw
          case rel =>
            exact ⟨fmj, mdel todo key, HCD.out.keep HKI.out (fun b hb e => by have := HNE.out.2 b hb; omega), HMI.out, found_same HFI.out (fun b => by rw [hje, List.take_length, HHE.out]; exact PO_next b),
              IterAt.keep HITD.out HKI.out (fun e => by omega) (fun e => by have := HNE.out.1; omega), HKI.out.behind HBH.out HBH.out.size (fun k hk e => by have := HBFW.out.1; omega), mdel_nodup key HND.out⟩
          case measure =>
            rw [itLeft_eq (IterAt.keep HITD.out HKI.out (fun e => by omega) (fun e => by have := HNE.out.1; omega)), itLeft_eq HIT.out]
            exact mdel_lt HTD.out

theorem lifted (os : Os) (started : os.Started) (H : Type) (enc : TypeId × Value → H) :
    ReturnsInHanded {} Try.checked os 6 .any (Rows.custodyOnceSpec.pre6 enc Try.prog Try.f6 Rows.custodyOnceRow.domain false) (Rows.custodyOnceSpec.post enc Try.prog Try.f6 false true false false) := by
  refine law_lifted os started (by kernel_rfl) Try.func6
    (ChangeSpec.witness6 (enc := enc) (C := Try.checked) false ⟨#[], #[.slice none 0 0], []⟩ 8 (by kernel_rfl) (by kernel_rfl) (by kernel_rfl) (by kernel_rfl))
    (by kernel_rfl) rfl rfl ?_ ?_
  · intro vs ds W p hA
    rw [Try.params6] at hA
    obtain ⟨v0, vs0, d0, ds0, p0, q0, rfl, rfl, rfl, h0, r0⟩ := trodAll_cons hA
    obtain ⟨rfl, rfl, rfl⟩ := trodAll_nil r0
    rfl
  · intro W base args ds p hval hA
    rw [Try.params6] at hA hval
    obtain ⟨v0, vs0, d0, ds0, p0, q0, hargs, rfl, rfl, h0, r0⟩ := trodAll_cons hA
    obtain ⟨rfl, rfl, rfl⟩ := trodAll_nil r0
    obtain rfl : args = #[v0] := by cases args; simp_all
    obtain ⟨l0, hs0, hf0⟩ := open_hands (hval 0 22 v0 rfl rfl) h0
    exact walk W l0 v0 hs0 hf0

theorem over : Rows.custodyOnceRow.holds Try.pinned (OpenSpec.ofChange Rows.custodyOnceSpec) :=
  OpenClaim.holds_of_wide 6 Try.f6 rfl rfl rfl rfl rfl rfl rfl ⟨rfl, rfl, rfl, rfl, rfl⟩ rfl rfl rfl rfl rfl (by kernel_rfl) Try.func6 (by kernel_rfl)
    (of_decide_eq_true (by kernel_rfl)) (by unfold Func.isWrapper; rw [if_neg (by decide +kernel)]; exact ⟨rfl, rfl⟩)
    (fun os started H enc _ => lifted os started H enc)

/-- The statement. -/
theorem proved : Rows.CustodyOnceSaid := over
#print axioms proved
end Go.Proofs.Ytmjblefjaccocaa.custodyOnce
