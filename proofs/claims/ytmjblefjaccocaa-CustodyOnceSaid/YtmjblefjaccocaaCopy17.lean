/- The program's Copy. -/
import Derived.Test.YtmjblefjaccocaaHeld17
namespace Go.Proofs.Ytmjblefjaccocaa.Mp
open Go
/-- How many entries an iterator still has to hand out. -/
def itLeft (w : World) (r b : Nat) : Nat :=
  match w.heap[r]?, w.heap[b]? with
  | some (.mapIter _ _ seen _), some (.map es _) => (leftOf es seen).size
  | _, _ => 0
theorem itLeft_eq {w : World} {r b : Nat} {l todo : Ents} (h : IterAt w r b l todo) : itLeft w r b = todo.length := by
  obtain ⟨es, clock, since, seen, c0, hr, hb, _, _, _, _, _, _, hl⟩ := h
  unfold itLeft
  rw [hr, hb]
  have := hl.length
  simpa using this
theorem mget_mdel (l : Ents) (k k' : ByteArray) : mget (mdel l k) k' = if k' = k then none else mget l k' := by
  induction l with
  | nil => simp [mdel, mget]
  | cons p r ih =>
    unfold mdel at *
    by_cases hk : k = p.1
    · rw [List.filter_cons_of_neg (by simp [hk]), ih]
      by_cases h1 : k' = k
      · simp [h1]
      · have : ¬ k' = p.1 := fun e => h1 (e.trans hk.symm)
        simp [h1, mget, this]
    · rw [List.filter_cons_of_pos (by simp [hk])]
      by_cases h2 : k' = p.1
      · have : ¬ k' = k := fun e => hk (e.symm.trans h2)
        have h3 : ¬ p.1 = k := fun e => hk e.symm
        simp [mget, h2, h3]
      · simp only [mget, h2, if_false, ih]
theorem mdel_keys {l : Ents} {k k' : ByteArray} (h : k' ∈ mkeys (mdel l k)) : k' ∈ mkeys l := by
  obtain ⟨p, hp, rfl⟩ := List.mem_map.1 h
  exact List.mem_map.2 ⟨p, (List.mem_filter.1 hp).1, rfl⟩
theorem mdel_nodup {l : Ents} (k : ByteArray) (h : (mkeys l).Nodup) : (mkeys (mdel l k)).Nodup := by
  have : (mkeys (mdel l k)).Sublist (mkeys l) := List.filter_sublist.map _
  exact this.nodup h
theorem mdel_lt {l : Ents} {k : ByteArray} {v : Value} (h : (k, v) ∈ l) : (mdel l k).length < l.length := by
  rcases Nat.lt_or_ge (mdel l k).length l.length with h1 | h1
  · exact h1
  · exfalso
    have h2 := List.length_filter_le (fun p : ByteArray × Value => !decide (k = p.1)) l
    have h3 : (mdel l k).length = l.length := Nat.le_antisymm h2 h1
    have h4 := List.length_filter_eq_length_iff.1 h3 (k, v) h
    simp at h4
end Go.Proofs.Ytmjblefjaccocaa.Mp
namespace Go.Proofs.Ytmjblefjaccocaa.Sc
open Go Go.RowKit Go.ChangeShapes Go.WideShapes Go.ChangeAt Mp

/-- What has been copied: the hand-overs of boxes that are no longer to come. -/
def doneD (done : List Hd) (todo : Ents) : List Hd := done.filter fun h => (mget todo h.box).isNone
theorem doneD_own (done : List Hd) (todo : Ents) (k : ByteArray) : ownOf (doneD done todo) k = if (mget todo k).isNone then ownOf done k else [] := by
  unfold ownOf doneD
  rw [List.filter_filter]
  by_cases h : (mget todo k).isNone = true
  · rw [if_pos h]
    refine List.filter_congr fun x _ => ?_
    by_cases hx : x.box = k
    · subst hx; simp [h]
    · simp [hx]
  · rw [if_neg h, List.filter_eq_nil_iff]
    intro x _
    by_cases hx : x.box = k
    · subst hx; simp [h]
    · simp [hx]
theorem doneD_len (done : List Hd) (todo : Ents) {k : ByteArray} (hk : (mget todo k).isNone = false) : (doneD done (mdel todo k)).length = (doneD done todo).length + (ownOf done k).length := by
  unfold doneD ownOf
  induction done with
  | nil => rfl
  | cons h r ih =>
    simp only [List.filter_cons, mget_mdel] at *
    by_cases hb : h.box = k
    · subst hb
      simp only [if_true, Option.isNone_none, List.length_cons, hk, Bool.false_eq_true, if_false, decide_true, ih]
      omega
    · simp only [hb, if_false, decide_false, Bool.false_eq_true]
      cases hm : (mget todo h.box).isNone
      · simp only [Bool.false_eq_true, if_false, ih]
      · simp only [if_true, List.length_cons, ih]; omega
theorem ch_set {w w2 : World} {F : Nat → Prop} {bp bm : Nat} {l : Ents} {D D' hs : List Hd} {k : ByteArray} {v' : Value} (hc : Ch w F bp bm l D) (hnew : k ∉ mkeys l) (hk : Keep (fun b => b = bm) w w2)
    (ho : ownOf D' k = hs) (hoo : ∀ k', k' ≠ k → ownOf D' k' = ownOf D k') (hv : w2.ownsRow 0 41 5 v' hs.length (hdCells hs)) (h0 : 0 < hs.length) (hb : ∀ g, v'.ownBlock = some g → w.heap.size ≤ g)
    (hm : MapAt w2 bm (mput l k v')) (hl : l.length + 1 ≤ D'.length) : ∃ F', Ch w2 F' bp bm (mput l k v') D' ∧ ∀ b, F' b → F b ∨ w.heap.size ≤ b := by
  obtain ⟨g, hvg⟩ : ∃ g, v'.ownBlock = some g := by
    rcases hv.2 with ⟨_, h1⟩ | ⟨g, cap, cur, rfl, _⟩
    · omega
    · exact ⟨g, rfl⟩
  have hgs := hb g hvg
  refine ⟨fun b => F b ∨ b = g, ⟨?_, hm, ⟨.inl hc.own.1, .inl hc.own.2⟩, ?_, ?_, ?_, ?_, ?_⟩, ?_⟩
  · exact hk.blk hc.ptr (ch_ne hc)
  · intro k' v hkv
    rcases mem_mput hc.map.nodup hkv with ⟨rfl, rfl⟩ | ⟨hne, hkv⟩
    · rw [ho]
      exact ⟨hv, h0, g, hvg, .inr rfl⟩
    · rw [hoo k' hne]
      obtain ⟨h1, h2, g', h3, h4⟩ := hc.hist k' v hkv
      refine ⟨ownsRow_keep h1 hk ?_, h2, g', h3, .inl h4⟩
      intro b hb'
      exact (ch_row hc hkv hb').2.2.2
  · intro k' hk'
    by_cases hkb : k' = k
    · subst hkb; rw [mput_keys_new _ hnew]; simp
    · rw [hoo k' hkb] at hk'
      have := hc.all k' hk'
      rw [mput_keys_new _ hnew]; simp [this]
  · intro k1 v1 k2 v2 h1 h2 hne
    have key : ∀ k1 v1, (k1, v1) ∈ l → v1.ownBlock ≠ some g := by
      intro k1 v1 h1 e
      have := (ch_row hc h1 e).2.1; omega
    rcases mem_mput hc.map.nodup h1 with ⟨rfl, rfl⟩ | ⟨hne1, hkv1⟩ <;> rcases mem_mput hc.map.nodup h2 with ⟨rfl, rfl⟩ | ⟨hne2, hkv2⟩
    · exact absurd rfl hne
    · rw [hvg]; exact fun e => key _ _ hkv2 e.symm
    · rw [hvg]; exact key _ _ hkv1
    · exact hc.apart _ _ _ _ hkv1 hkv2 hne
  · rw [mput_new _ hnew]; simpa using hl
  · rintro b (h1 | rfl)
    · exact Nat.lt_of_lt_of_le (hc.lt b h1) hk.size
    · exact (hv.lt b hvg).2
  · rintro b (h1 | rfl)
    · exact .inl h1
    · exact .inr hgs
/-- One entry more is copied. -/
theorem copy_step {w w2 : World} {F : Nat → Prop} {bd bmd : Nat} {md todo : Ents} {done hs : List Hd} {key : ByteArray} {sv v' : Value} (hc : Ch w F bd bmd md (doneD done todo)) (hfew : md.length ≤ (doneD done todo).length)
    (hh : ownOf done key = hs) (h0 : 0 < hs.length) (ht : (key, sv) ∈ todo) (hn : (mkeys todo).Nodup) (hk : Keep (fun b => b = bmd) w w2)
    (hv : w2.ownsRow 0 41 5 v' hs.length (hdCells hs)) (hb : ∀ g, v'.ownBlock = some g → w.heap.size ≤ g) (hm : MapAt w2 bmd (mput md key v')) :
    ∃ F', Ch w2 F' bd bmd (mput md key v') (doneD done (mdel todo key)) ∧ ∀ b, F' b → F b ∨ w.heap.size ≤ b := by
  have hg : (mget todo key).isNone = false := by rw [mget_of_mem hn ht]; rfl
  refine ch_set hc ?_ hk (hs := hs) ?_ ?_ hv h0 hb hm ?_
  · intro hin
    obtain ⟨q, hq, e⟩ := List.mem_map.1 hin
    have := (hc.hist q.1 q.2 hq).2.1
    rw [e, doneD_own, hg] at this
    simp at this
  · rw [doneD_own, mget_mdel, if_pos rfl]; exact hh
  · intro k' hk'
    rw [doneD_own, doneD_own, mget_mdel, if_neg hk']
  · rw [doneD_len done todo hg, hh]; omega

set_option maxRecDepth 8000 in
set_option maxHeartbeats 4000000 in
theorem copy_any (p : Value) (done : List Hd) (F : Nat → Prop) (w : World) (hc : Chain w F p done) (hlen : done.length ≤ 4000) :
    Calls Try.prog 21 #[p] w fun e w' => ∃ pd Fd, e = .returned pd ∧ Below w.heap.size w w' ∧ Chain w' Fd pd done ∧ ∀ b, Fd b → w.heap.size ≤ b := by
  obtain ⟨bp, bm, l, rfl, hch⟩ := hc
  have HCH := Lib.hid hch
  have HLEN := Lib.hid hlen
  clear hch hlen
  go_enter Try.func21, Try.ntmps21
  go_wp2_with fail
  refine (new_any _).mono ?_
  rintro e w1 ⟨pd, rfl, hb1, F1, ⟨bd, bmd, md0, rfl, hd1⟩, hF1⟩
  have hmd0 : md0 = [] := by have := hd1.few; exact List.eq_nil_of_length_eq_zero (by simpa using this)
  subst hmd0
  have HB1 := Lib.hid hb1
  have HD1 := Lib.hid hd1
  have HF1 := Lib.hid hF1
  have HC1 := Lib.hid (HCH.out.below hb1)
  have c0 := cell_blk HC1.out.ptr 0
  simp only [List.getElem?_toArray, List.getElem?_cons_zero] at c0
  clear hb1 hd1 hF1
  go_wp2_with (first
    | ((with_reducible refine Mp.wpl_range ?_ ?_ Try.underlying60 HC1.out.map ?_); rfl; rfl; intro w2 hit2 hal2; have HIT2 := Lib.hid hit2; have HAL2 := Lib.hid hal2; clear hit2 hal2; go_frame)
    | fail)
  have HB2 : Hid (Below w1.heap.size w1 w2 ∧ w1.heap.size < w2.heap.size) := Lib.hid (by obtain ⟨o, rfl⟩ := HAL2.out; exact ⟨one_below _ _, by simp⟩)
  have HNRB : Hid (w1.heap.size ≠ bmd ∧ bm ≠ bmd ∧ w.heap.size ≤ bmd) := Lib.hid ⟨fun e => by have := HD1.out.map.lt; omega, fun e => by have h1 := HF1.out bmd HD1.out.own.2; have h2 := HCH.out.map.lt; omega, HF1.out bmd HD1.out.own.2⟩
  go_loopw [4, 5] (fun _ _ wr => ∃ (Fd : Nat → Prop) (md todo : Ents), Ch wr Fd bd bmd md (doneD done todo) ∧ (∀ b, Fd b → w.heap.size ≤ b) ∧ IterAt wr w1.heap.size bm l todo ∧ Below w.heap.size w wr ∧ (∀ q, q ∈ todo → q ∈ l) ∧ (mkeys todo).Nodup ∧ ¬ Fd w1.heap.size) (fun _ _ wr => itLeft wr w1.heap.size bm)
  case atStart =>
    refine ⟨F1, [], l, ?_, HF1.out, HIT2.out, HB1.out.trans (HB2.out.1.mono HB1.out.size), fun _ h => h, HCH.out.map.nodup, fun h => Nat.lt_irrefl _ (HD1.out.lt _ h)⟩
    have e : doneD done l = [] := by
      unfold doneD
      rw [List.filter_eq_nil_iff]
      intro h hh e
      have h1 := HCH.out.all h.box (List.ne_nil_of_mem (List.mem_filter.2 ⟨hh, by simp⟩))
      exact mget_none.1 (by simpa using e) h1
    rw [e]
    exact HD1.out.below HB2.out.1
  case round =>
    obtain ⟨Fd, md, todo, hcd, hfb, hit, hbel, hsub, hnd, hnf⟩ := hrel
    have HCD0 := Lib.hid hcd
    have HFB := Lib.hid hfb
    have HIT0 := Lib.hid hit
    have HBEL := Lib.hid hbel
    have HSUB := Lib.hid hsub
    have HND := Lib.hid hnd
    have HNF := Lib.hid hnf
    clear hcd hfb hit hbel hsub hnd hnf
    go_wp2_with (first
      | ((with_reducible refine Mp.wpl_next ?_ ?_ HIT0.out ?_ ?_); rfl; rfl)
      | fail)
    · intro h0
      have HT := Lib.hid h0
      clear h0
      go_wp2_with fail
      go_ret
      have h1 := HCD0.out
      have e : doneD done todo = done := by rw [HT.out]; unfold doneD; exact List.filter_eq_self.2 (fun _ _ => rfl)
      rw [e] at h1
      exact ⟨_, Fd, rfl, HBEL.out, ⟨bd, bmd, md, rfl, h1⟩, HFB.out⟩
    · intro key sv wc hmem hitc hgc hsc hen
      have HTD := Lib.hid hmem
      have HITC := Lib.hid hitc
      have HSC := Lib.hid hsc
      have HKC := Lib.hid (Keep.of_grown hgc)
      have HRL : Hid (w.heap.size ≤ w1.heap.size) := Lib.hid HB1.out.size
      have HCD := Lib.hid (HCD0.out.keep HKC.out (fun b hb e => HNF.out (by rw [Option.some.inj e]; exact hb)))
      have HBELC := Lib.hid (HKC.out.behind HBEL.out HBEL.out.size (fun k hk e => by have := Option.some.inj e; have := HRL.out; omega))
      have HCC := Lib.hid (HCH.out.below HBELC.out)
      have HML := Lib.hid (HSUB.out _ hmem)
      obtain ⟨hs, hhs⟩ : ∃ hs, ownOf done key = hs := ⟨_, rfl⟩
      have hst := HCC.out.hist key sv HML.out
      rw [hhs] at hst
      have HHS := Lib.hid hhs
      have HPOS := Lib.hid hst.2.1
      have HSV := Lib.hid (own_hands hst.1 rfl)
      have HSL : Hid (hs.length ≤ 1000000) := Lib.hid (by have h1 := ownOf_len done key; have h2 := HLEN.out; rw [hhs] at h1; omega)
      have HOF : Hid (Off (fun b => b = bmd) sv) := Lib.hid (fun b hb e => by
        have h1 := (ch_row HCH.out HML.out hb).2.1
        have h2 := HNRB.out.2.2
        omega)
      have HFD := Lib.hid HCD.out.few
      have HNR : Hid (¬ w1.heap.size = bmd) := Lib.hid HNRB.out.1
      have HNB : Hid (¬ bm = bmd) := Lib.hid HNRB.out.2.1
      have HBD : Hid (w.heap.size ≤ bmd) := Lib.hid HNRB.out.2.2
      have HWC : Hid (w1.heap.size < wc.heap.size) := Lib.hid HITC.out.lt.1
      clear hmem hitc hgc hsc hhs hst c0
      go_wp2_with fail
      clear hen
      refine Ord.region_lit (fun
        | 0 => Ord.val (.pointer (some ⟨bd, 0, none⟩))
        | 1 => Ord.val (.pointer (some ⟨bd, 0, none⟩))
        | 2 => Ord.val (.pointer (some ⟨bd, 0, none⟩))
        | 3 => Ord.val (.map (some bmd))
        | 4 => Ord.val (.string key)
        | 5 => Ord.val (sv)
        | 6 => ⟨fun v O w => w.ownsRow 0 41 5 v hs.length (hdCells hs) ∧ ∀ b, O b ↔ v.ownBlock = some b, [], fun _ => False⟩
        | 7 => ⟨fun _ O w => ∃ v, w.ownsRow 0 41 5 v hs.length (hdCells hs) ∧ MapAt w bmd (mput md key v) ∧ ∀ b, O b ↔ (b = bmd ∨ v.ownBlock = some b), [6], fun b => b = bmd⟩
        | _ => Ord.idle) (fun b => b = bmd) (by kernel_rfl) (by kernel_rfl) (by kernel_rfl) ?_ ?_ ?_ ?_
      · intro i _
        match i with
        | 0 => exact Ord.lasts_val _
        | 1 => exact Ord.lasts_val _
        | 2 => exact Ord.lasts_val _
        | 3 => exact Ord.lasts_val _
        | 4 => exact Ord.lasts_val _
        | 5 => exact Ord.lasts_val _
        | 6 => exact ⟨fun v O w h b hb => (h.1.lt b ((h.2 b).1 hb)).2, fun v O w w' h _ _ _ hs => ⟨Any.ownsRow_same h.1 (fun b hb => hs b ((h.2 b).2 hb)), h.2⟩⟩
        | 7 => exact ⟨fun v O w h b hb => by
      obtain ⟨v', h1, h2, h3⟩ := h
      rcases (h3 b).1 hb with rfl | h4
      · exact h2.lt
      · exact (h1.lt b h4).2, fun v O w w' h _ _ _ hs => by
      obtain ⟨v', h1, h2, h3⟩ := h
      exact ⟨v', Any.ownsRow_same h1 (fun b hb => hs b ((h3 b).2 (.inr hb))), h2.same (hs bmd ((h3 bmd).2 (.inl rfl))), h3⟩⟩
        | n + 8 => exact Ord.lasts_idle
      · refine ⟨fun k b _ hh => ?_, fun k b _ hh => ?_, fun k k' b _ _ hne h1 h2 => ?_⟩
        · match k, hh with
          | 0, hh => exact hh.elim
          | 1, hh => exact hh.elim
          | 2, hh => exact hh.elim
          | 3, hh => exact hh.elim
          | 4, hh => exact hh.elim
          | 5, hh => exact hh.elim
          | 6, hh => exact hh.elim
          | 7, hh => exact hh
          | m + 8, hh => exact hh.elim
        · match k, hh with
          | 0, hh => exact hh.elim
          | 1, hh => exact hh.elim
          | 2, hh => exact hh.elim
          | 3, hh => exact hh.elim
          | 4, hh => exact hh.elim
          | 5, hh => exact hh.elim
          | 6, hh => exact hh.elim
          | 7, hh => exact (hh ▸ HCD.out.map.lt)
          | m + 8, hh => exact hh.elim
        · have a : (k = 7 ∧ (fun b => b = bmd) b) := by
            match k, h1 with
            | 0, hh => exact hh.elim
            | 1, hh => exact hh.elim
            | 2, hh => exact hh.elim
            | 3, hh => exact hh.elim
            | 4, hh => exact hh.elim
            | 5, hh => exact hh.elim
            | 6, hh => exact hh.elim
            | 7, hh => exact ⟨rfl, hh⟩
            | m + 8, hh => exact hh.elim
          have a' : (k' = 7 ∧ (fun b => b = bmd) b) := by
            match k', h2 with
            | 0, hh => exact hh.elim
            | 1, hh => exact hh.elim
            | 2, hh => exact hh.elim
            | 3, hh => exact hh.elim
            | 4, hh => exact hh.elim
            | 5, hh => exact hh.elim
            | 6, hh => exact hh.elim
            | 7, hh => exact ⟨rfl, hh⟩
            | m + 8, hh => exact hh.elim
          rcases a with ⟨rfl, a⟩ <;> rcases a' with ⟨rfl, a'⟩
          all_goals first | exact absurd rfl hne | (exact hne rfl)
      · refine ⟨?_, ?_, ?_, ?_, ?_, ?_, ?_, ?_, trivial⟩
        · refine Ord.owes_plain rfl fun ρ Os wo hs' hb hc' => ?_
          have h3 : ρ (.tmp 3) = .pointer (some ⟨bd, 0, none⟩) := hs'.old' 3 (by kernel_rfl)
          exact Any.ok_move (Ord.post_val rfl h3)
        · refine Ord.owes_plain rfl fun ρ Os wo hs' hb hc' => ?_
          have h17 : ρ (.tmp 17) = .pointer (some ⟨bd, 0, none⟩) := (hs'.new' 17 0 (by kernel_rfl)).1
          go_simp
          exact Ord.post_val rfl rfl
        · refine Ord.owes_plain rfl fun ρ Os wo hs' hb hc' => ?_
          have h18 : ρ (.tmp 18) = .pointer (some ⟨bd, 0, none⟩) := (hs'.new' 18 1 (by kernel_rfl)).1
          go_simp
          exact Ord.post_val rfl rfl
        · refine Ord.owes_plain rfl fun ρ Os wo hs' hb hc' => ?_
          have h19 : ρ (.tmp 19) = .pointer (some ⟨bd, 0, none⟩) := (hs'.new' 19 2 (by kernel_rfl)).1
          have c0 : wo.cell? ⟨bd, 0, none⟩ = some (.map (some bmd)) := (hb.undrew.cell (lt_blk HCD.out.ptr) (ch_ne HCD.out)).trans (cell_blk HCD.out.ptr 0)
          go_simp
          exact Ord.post_val rfl rfl
        · refine Ord.owes_plain rfl fun ρ Os wo hs' hb hc' => ?_
          have h4 : ρ (.tmp 4) = .string key := hs'.old' 4 (by kernel_rfl)
          exact Any.ok_move (Ord.post_val rfl h4)
        · refine Ord.owes_plain rfl fun ρ Os wo hs' hb hc' => ?_
          have h5 : ρ (.tmp 5) = sv := hs'.old' 5 (by kernel_rfl)
          exact Any.ok_move (Ord.post_val rfl h5)
        · refine Ord.owes_plain rfl fun ρ Os wo hs' hb hc' => ?_
          have h22 : ρ (.tmp 22) = sv := (hs'.new' 22 5 (by kernel_rfl)).1
          have hf := hs'.func 31
          have hf := hs'.func 31
          go_simp
          exact (cloneHs_any hs sv wo (HSV.out.keep hb.undrew HOF.out) HSL.out).mono fun e w' ⟨v', he, ho', hb'⟩ => ⟨v', he, Ord.post_new ⟨ownsRow_base ho' (Nat.zero_le _), fun b => Iff.rfl⟩ hb' (fun b h => (ho'.lt b h).1)⟩
        · refine Ord.owes_plain rfl fun ρ Os wo hs' hb hc' => ?_
          have h20 : ρ (.tmp 20) = .map (some bmd) := (hs'.new' 20 3 (by kernel_rfl)).1
          have h21 : ρ (.tmp 21) = .string key := (hs'.new' 21 4 (by kernel_rfl)).1
          obtain ⟨hr1, hr2⟩ := hs'.new' 23 6 (by kernel_rfl)
          have hmap : MapAt wo bmd md := HCD.out.map.same (hs'.here bmd rfl)
          refine Mp.ok_update (key := key) (v := ρ (.tmp 23)) Try.underlying60 Try.underlying9 h20 h21 rfl hmap fun w' h1 h2 h3 => ?_
          refine ⟨fun b => b = bmd ∨ (ρ (.tmp 23)).ownBlock = some b, ⟨_, Any.ownsRow_same hr1 (fun b hob => h2.block b (hr1.lt b hob).2 (fun e => ?_)), h1, fun _ => Iff.rfl⟩, ⟨h2.os, h2.tape, h2.output⟩, h2.size, fun b hlt _ hne => h2.block b hlt (fun e => hne (Option.some.inj e)), fun b hb => ?_⟩
          · exact row_ne_map hr1 hmap (hob.trans e)
          · rcases hb with rfl | hb
            · exact .inr (.inr rfl)
            · exact .inl ⟨6, List.mem_singleton.2 rfl, (hr2 b).2 hb⟩
      · intro vals Os w' hk hkn hap hbd
        obtain ⟨v', k1, k2, k3⟩ := hkn 7 (by kernel_rfl)
        have hbd7 := hbd 7 (by kernel_rfl)
        have HKF := Lib.hid hk
        have K1 := Lib.hid k1
        have K2 := Lib.hid k2
        have K3 : Hid (∀ g, v'.ownBlock = some g → wc.heap.size ≤ g) := Lib.hid fun g hg => (hbd7 g ((k3 g).2 (.inr hg))).resolve_right (fun e => row_ne_map k1 k2 (e ▸ hg))
        clear hkn hap hbd hk k1 k2 k3 hbd7
        simp only [Any.putAll]
        go_frame
        go_wp2_with fail
        go_roundw
        case rel =>
          obtain ⟨F', c1, c2⟩ := copy_step HCD.out HFD.out HHS.out HPOS.out HTD.out HND.out HKF.out K1.out K3.out K2.out
          refine ⟨F', mput md key v', mdel todo key, c1, fun b h => (c2 b h).elim (HFB.out b) (fun h => Nat.le_trans HBELC.out.size h), IterAt.keep HITC.out HKF.out HNR.out HNB.out, HKF.out.behind HBELC.out HBELC.out.size (fun k hk e => by have := HBD.out; omega), ?_, ?_, ?_⟩
          · intro q hq
            exact HSUB.out q (List.mem_filter.1 hq).1
          · exact mdel_nodup key HND.out
          · intro h
            rcases c2 _ h with h1 | h1
            · exact HNF.out h1
            · have := HWC.out; omega
        case measure =>
          rw [itLeft_eq (IterAt.keep HITC.out HKF.out HNR.out HNB.out), itLeft_eq HIT0.out]
          exact mdel_lt HTD.out
end Go.Proofs.Ytmjblefjaccocaa.Sc
