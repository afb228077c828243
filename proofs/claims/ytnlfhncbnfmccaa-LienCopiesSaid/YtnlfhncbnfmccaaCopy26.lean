/- The program's Copy. -/
import Derived.Test.YtnlfhncbnfmccaaAwake26
namespace Go.Proofs.Ytnlfhncbnfmccaa.Mp
open Go Go.RowKit
def itLeft (w : World) (r b : Nat) : Nat :=
  match w.heap[r]?, w.heap[b]? with
  | some (.mapIter _ _ seen _), some (.map es _) => (leftOf es seen).size
  | _, _ => 0
theorem itLeft_eq {w : World} {r b : Nat} {l todo : Ents} (h : IterAt w r b l todo) : itLeft w r b = todo.length := by
  obtain ⟨es, clock, since, seen, c0, hr, hb, _, _, _, _, _, _, hl⟩ := h
  unfold itLeft
  rw [hr, hb]
  have := hl.length
  simpa using this
theorem mdel_lt {l : Ents} {k : ByteArray} {v : Value} (h : (k, v) ∈ l) : (mdel l k).length < l.length := by
  rcases Nat.lt_or_ge (mdel l k).length l.length with h1 | h1
  · exact h1
  · exfalso
    have h2 := List.length_filter_le (fun p : ByteArray × Value => !decide (k = p.1)) l
    have h3 : (mdel l k).length = l.length := Nat.le_antisymm h2 h1
    have h4 := List.length_filter_eq_length_iff.1 h3 (k, v) h
    simp at h4
end Go.Proofs.Ytnlfhncbnfmccaa.Mp
namespace Go.Proofs.Ytnlfhncbnfmccaa.Sc
open Go Go.RowKit Go.ChangeShapes Go.WideShapes Go.ChangeAt
set_option maxRecDepth 100000

theorem row_ne_mapP {w : World} {B sz n b : Nat} {e : TypeId} {v : Value} {xs : List Value} {l : Mp.Ents} (h : w.ownsRow B e sz v n xs) (hm : Mp.MapAt w b l) : v.ownBlock ≠ some b := by
  intro hb
  obtain ⟨_, h2⟩ := h
  rcases h2 with ⟨rfl, _⟩ | ⟨g, cap, cur, rfl, hg, hh, _⟩
  · cases hb
  · obtain rfl : g = b := Option.some.inj hb
    obtain ⟨es, clock, hm, _⟩ := hm
    rw [hh] at hm
    cases hm
/-- What has been copied: the rows of things that are no longer to come. -/
def doneR (R : ByteArray → List Pg) (todo : Mp.Ents) : ByteArray → List Pg := fun u => if (Mp.mget todo u).isNone = true then R u else []
theorem copy_stepP {w w2 : World} {F : Nat → Prop} {bd bmd : Nat} {md todo : Mp.Ents} {R : ByteArray → List Pg} {key : ByteArray} {sv v' : Value} (hc : LnAt w F bd bmd (doneR R todo) 0 md) (hr : R key ≠ []) (_ : (key, sv) ∈ todo)
    (hk : Keep (fun b => b = bmd) w w2) (hv : w2.ownsRow 0 37 6 v' (R key).length (pgCells (R key))) (hb : ∀ g, v'.ownBlock = some g → w.heap.size ≤ g) (hm : Mp.MapAt w2 bmd (Mp.mput md key v')) :
    ∃ F', LnAt w2 F' bd bmd (doneR R (Mp.mdel todo key)) 0 (Mp.mput md key v') ∧ ∀ b, F' b → F b ∨ w.heap.size ≤ b := by
  have k1 : Keep (fun b => b = bd ∨ b = bmd ∨ (rowV md key).ownBlock = some b) w w2 := hk.mono fun _ _ h => .inr (.inl h)
  have h1 := hc.set (n' := 0) hr k1 (hk.blk hc.box (fun e => hc.ne e.symm)) hm hv (fun g hg => .inr (hb g hg))
  refine ⟨fun b => F b ∨ (w.heap.size ≤ b ∧ b < w2.heap.size), ?_, fun b h => Or.elim h .inl (fun h => .inr h.1)⟩
  have e : (fun u => if u = key then R key else doneR R todo u) = doneR R (Mp.mdel todo key) := by
    funext u
    unfold doneR
    rw [Mp.mget_mdel]
    by_cases h : u = key
    · subst h; simp
    · have : ¬ key = u := fun e => h e.symm
      rw [if_neg h, if_neg this]
  rw [← e]
  exact h1
theorem LnAt.recount {w w' : World} {F : Nat → Prop} {bk bm n n' : Nat} {R : ByteArray → List Pg} {es : Mp.Ents} (h : LnAt w F bk bm R n es) (k : Keep (fun b => b = bk) w w') (hb : w'.heap[bk]? = some (.cells #[.map (some bm), .int .i64 n'] 60 (0, 0))) : LnAt w' F bk bm R n' es :=
  ⟨hb, h.map.same (k.block _ (h.lt _ h.fm) h.ne), fun t v ht => ⟨ownsRow_keep (h.rows t v ht).1 k (fun g hg => (h.own t v g ht hg).2.1), (h.rows t v ht).2⟩, h.miss, h.own, h.apart, h.fk, h.fm, h.ne, fun i hi => Nat.lt_of_lt_of_le (h.lt i hi) k.size⟩
def CopyX (w : World) (l : List Pg) (e : Ending) (w' : World) : Prop := ∃ F bk bm, e = .returned (.pointer (some ⟨bk, 0, none⟩)) ∧ Lx w' F bk bm l ∧ (∀ k, F k → w.heap.size ≤ k) ∧ Below w.heap.size w w'
set_option maxHeartbeats 8000000 in
theorem copyX_any {w : World} {F : Nat → Prop} {bk bm : Nat} {l : List Pg} (h : Lx w F bk bm l) (hlen : l.length ≤ 4000) : Calls Try.prog 19 #[.pointer (some ⟨bk, 0, none⟩)] w (CopyX w l) := by
  obtain ⟨es, h⟩ := h
  obtain ⟨R, hR⟩ : ∃ R, R = ofT l := ⟨_, rfl⟩
  have HRE := Lib.hid hR
  have HRL : Hid (∀ t, (R t).length ≤ 4000) := Lib.hid (fun t => by rw [hR]; exact Nat.le_trans (ofT_le l t) hlen)
  rw [← hR] at h
  obtain ⟨n, hn⟩ : ∃ n, n = l.length := ⟨_, rfl⟩
  have HNL := Lib.hid hn
  rw [← hn] at h
  have HH := Lib.hid h
  have HNW := Lib.hid (new_any w)
  clear h hR hn hlen
  go_enter Try.func19, Try.ntmps19
  go_wp2_with (first
    | ((with_reducible refine HNW.out.mono ?_); rintro e w1 ⟨bd, bmd, rfl, hx, hb⟩; have HX1 := Lib.hid hx; have HB1 := Lib.hid hb; have HH1 := Lib.hid (HH.out.below hb); have c0 := cell_blk (HH.out.below hb).box 0; clear hx hb)
    | ((with_reducible refine Mp.wpl_range ?_ ?_ Try.underlying58 HH1.out.map ?_); rfl; rfl; intro w2 hit2 hal2; have HIT2 := Lib.hid hit2; have HB2 : Hid (Below w1.heap.size w1 w2 ∧ w1.heap.size < w2.heap.size) := Lib.hid (by obtain ⟨o, rfl⟩ := hal2; exact ⟨one_below _ _, by simp⟩); clear hit2 hal2; go_frame)
    | fail)
  have HNRB : Hid (w1.heap.size ≠ bmd ∧ bm ≠ bmd ∧ w.heap.size ≤ bmd) := Lib.hid (by
    have h1 : w.heap.size ≤ bmd ∧ bmd < w1.heap.size := HX1.out.fm
    have h2 := HH.out.lt _ HH.out.fm
    exact ⟨fun e => by omega, fun e => by omega, h1.1⟩)
  go_loopw [4, 5] (fun _ _ wr => ∃ (Fd : Nat → Prop) (md todo : Mp.Ents), LnAt wr Fd bd bmd (doneR R todo) 0 md ∧ (∀ b, Fd b → w.heap.size ≤ b) ∧ Mp.IterAt wr w1.heap.size bm es todo ∧ Below w.heap.size w wr ∧ (∀ q, q ∈ todo → q ∈ es) ∧ (Mp.mkeys todo).Nodup ∧ ¬ Fd w1.heap.size) (fun _ _ wr => Mp.itLeft wr w1.heap.size bm)
  case atStart =>
    have e : doneR R es = fun _ => [] := by
      funext u
      unfold doneR
      by_cases hg : Mp.mget es u = none
      · rw [hg, HH.out.miss u hg]; rfl
      · rw [if_neg (by simpa using hg)]
    refine ⟨fun k => w.heap.size ≤ k ∧ k < w1.heap.size, [], es, ?_, fun k hk => hk.1, HIT2.out, HB1.out.trans (HB2.out.1.mono HB1.out.size), fun _ h => h, HH.out.map.nodup, fun h => Nat.lt_irrefl _ h.2⟩
    rw [e]
    exact HX1.out.below HB2.out.1
  case round =>
    obtain ⟨Fd, md, todo, hcd, hfb, hit, hbel, hsub, hnd, hnf⟩ := hrel
    have HCD0 := Lib.hid hcd
    have HFB := Lib.hid hfb
    have HIT0 := Lib.hid hit
    have HBEL := Lib.hid hbel
    have HSUB := Lib.hid hsub
    have HND := Lib.hid hnd
    have HNF := Lib.hid hnf
    clear hcd hfb hit hbel hsub hnd hnf
    go_wp2_with (first
      | ((with_reducible refine Mp.wpl_next ?_ ?_ HIT0.out ?_ ?_); rfl; rfl)
      | fail)
    · intro h0
      have HT := Lib.hid h0
      have h1 := HCD0.out
      have e : doneR R todo = R := by rw [HT.out]; funext u; rfl
      rw [e] at h1
      have HD := Lib.hid h1
      have y1 := cell_blk (HH.out.below HBEL.out).box 1
      have z1 := cell_blk h1.box 1
      have zf := free_blk h1.box 1
      clear h0 h1 e c0
      have HSB : Hid ((wr.setCell ⟨bd, 1, none⟩ (.int .i64 (n : Int))).heap[bd]? = some (.cells #[.map (some bmd), .int .i64 (n : Int)] 60 (0, 0))) := Lib.hid (by
        simp [World.setCell, Array.getElem?_modify, HD.out.box])
      have HKS : Hid (Keep (fun b => b = bd) wr (wr.setCell ⟨bd, 1, none⟩ (.int .i64 (n : Int)))) := Lib.hid ((Keep.of_grown (Ord.set_grown wr bd 1 (.int .i64 (n : Int)))).mono fun i _ hi => (Option.some.inj hi).symm)
      go_wp2_with fail
      go_ret
      have h2 := HD.out.recount HKS.out HSB.out
      rw [HRE.out] at h2
      have h3 : Lx (wr.setCell ⟨bd, 1, none⟩ (.int .i64 (n : Int))) Fd bd bmd l := ⟨md, by rw [← HNL.out]; exact h2⟩
      exact ⟨Fd, bd, bmd, rfl, h3, HFB.out, HKS.out.behind HBEL.out HBEL.out.size (fun k hk e => by have := HFB.out bd HD.out.fk; omega)⟩
    · intro key sv wc hmem hitc hgc hsc hen
      have HTD := Lib.hid hmem
      have HITC := Lib.hid hitc
      have HSC := Lib.hid hsc
      have HKC := Lib.hid (Keep.of_grown hgc)
      have HRL1 : Hid (w.heap.size ≤ w1.heap.size) := Lib.hid HB1.out.size
      have HCD := Lib.hid (HCD0.out.keep HKC.out (fun b hb e => HNF.out (by rw [Option.some.inj e]; exact hb)))
      have HBELC := Lib.hid (HKC.out.behind HBEL.out HBEL.out.size (fun k hk e => by have := Option.some.inj e; have := HRL1.out; omega))
      have HCC := Lib.hid (HH.out.below HBELC.out)
      have HML := Lib.hid (HSUB.out _ hmem)
      have hget : Mp.mget es key = some sv := Mp.mget_of_mem HH.out.map.nodup HML.out
      have HRW := Lib.hid (HCC.out.rows key sv hget)
      have HRN : Hid (R key ≠ []) := Lib.hid HRW.out.2
      have HSV := Lib.hid (own_pgs HRW.out.1 rfl)
      have HSL : Hid ((R key).length ≤ 1000000) := Lib.hid (by have := HRL.out key; omega)
      have HOF : Hid (Off (fun b => b = bmd) sv ∨ R key = []) := Lib.hid (.inl fun b hb e => by
        have h1 := HH.out.lt _ (HH.out.own key sv b hget hb).1
        have h2 := HNRB.out.2.2
        omega)
      have HNR : Hid (¬ w1.heap.size = bmd) := Lib.hid HNRB.out.1
      have HNB : Hid (¬ bm = bmd) := Lib.hid HNRB.out.2.1
      have HBD : Hid (w.heap.size ≤ bmd) := Lib.hid HNRB.out.2.2
      have HWC : Hid (w1.heap.size < wc.heap.size) := Lib.hid HITC.out.lt.1
      clear hmem hitc hgc hsc hget c0
      go_wp2_with fail
      clear hen
      refine Ord.region_lit (fun
        | 0 => Ord.val (.pointer (some ⟨bd, 0, none⟩))
        | 1 => Ord.val (.pointer (some ⟨bd, 0, none⟩))
        | 2 => Ord.val (.pointer (some ⟨bd, 0, none⟩))
        | 3 => Ord.val (.map (some bmd))
        | 4 => Ord.val (.string key)
        | 5 => Ord.val (sv)
        | 6 => Ord.Spec.mk (fun _ v O w => w.ownsRow 0 37 6 v (R key).length (pgCells (R key)) ∧ ∀ b, O b ↔ v.ownBlock = some b) [] (fun _ => False)
        | 7 => Ord.Spec.mk (fun _ _ O w => ∃ v, w.ownsRow 0 37 6 v (R key).length (pgCells (R key)) ∧ Mp.MapAt w bmd (Mp.mput md key v) ∧ ∀ b, O b ↔ (b = bmd ∨ v.ownBlock = some b)) [6] (fun b => b = bmd)
        | _ => Ord.idle) (fun b => b = bmd) (by kernel_rfl) (by kernel_rfl) (by kernel_rfl) ?_ ?_ ?_ ?_
      · intro i _
        match i with
        | 0 => exact Ord.lasts_val _
        | 1 => exact Ord.lasts_val _
        | 2 => exact Ord.lasts_val _
        | 3 => exact Ord.lasts_val _
        | 4 => exact Ord.lasts_val _
        | 5 => exact Ord.lasts_val _
        | 6 => exact ⟨fun _ v O w h b hb => (h.1.lt b ((h.2 b).1 hb)).2, fun _ v O w w' h _ _ _ hs => ⟨Any.ownsRow_same h.1 (fun b hb => hs b ((h.2 b).2 hb)), h.2⟩⟩
        | 7 => exact ⟨fun _ v O w h b hb => by
      obtain ⟨v', h1, h2, h3⟩ := h
      rcases (h3 b).1 hb with rfl | h4
      · exact h2.lt
      · exact (h1.lt b h4).2, fun _ v O w w' h _ _ _ hs => by
      obtain ⟨v', h1, h2, h3⟩ := h
      exact ⟨v', Any.ownsRow_same h1 (fun b hb => hs b ((h3 b).2 (.inr hb))), h2.same (hs bmd ((h3 bmd).2 (.inl rfl))), h3⟩⟩
        | n + 8 => exact Ord.lasts_idle
      · refine ⟨fun k b _ hh => ?_, fun k b _ hh => ?_, fun k k' b _ _ hne h1 h2 => ?_⟩
        · match k, hh with
          | 0, hh => exact hh.elim
          | 1, hh => exact hh.elim
          | 2, hh => exact hh.elim
          | 3, hh => exact hh.elim
          | 4, hh => exact hh.elim
          | 5, hh => exact hh.elim
          | 6, hh => exact hh.elim
          | 7, hh => exact hh
          | m + 8, hh => exact hh.elim
        · match k, hh with
          | 0, hh => exact hh.elim
          | 1, hh => exact hh.elim
          | 2, hh => exact hh.elim
          | 3, hh => exact hh.elim
          | 4, hh => exact hh.elim
          | 5, hh => exact hh.elim
          | 6, hh => exact hh.elim
          | 7, hh => exact hh ▸ HCD.out.map.lt
          | m + 8, hh => exact hh.elim
        · have a : (k = 7 ∧ (fun b => b = bmd) b) := by
            match k, h1 with
            | 0, hh => exact hh.elim
            | 1, hh => exact hh.elim
            | 2, hh => exact hh.elim
            | 3, hh => exact hh.elim
            | 4, hh => exact hh.elim
            | 5, hh => exact hh.elim
            | 6, hh => exact hh.elim
            | 7, hh => exact ⟨rfl, hh⟩
            | m + 8, hh => exact hh.elim
          have a' : (k' = 7 ∧ (fun b => b = bmd) b) := by
            match k', h2 with
            | 0, hh => exact hh.elim
            | 1, hh => exact hh.elim
            | 2, hh => exact hh.elim
            | 3, hh => exact hh.elim
            | 4, hh => exact hh.elim
            | 5, hh => exact hh.elim
            | 6, hh => exact hh.elim
            | 7, hh => exact ⟨rfl, hh⟩
            | m + 8, hh => exact hh.elim
          rcases a with ⟨rfl, a⟩ <;> rcases a' with ⟨rfl, a'⟩
          all_goals first | exact absurd rfl hne | (exact hne rfl)
      · refine ⟨?_, ?_, ?_, ?_, ?_, ?_, ?_, ?_, trivial⟩
        · refine Ord.owes_plain rfl fun ρ Os wo hs' hb hc' => ?_
          have h3 : ρ (.tmp 3) = .pointer (some ⟨bd, 0, none⟩) := hs'.old' 3 (by kernel_rfl)
          exact Any.ok_move (Ord.post_val rfl h3)
        · refine Ord.owes_plain rfl fun ρ Os wo hs' hb hc' => ?_
          have h17 : ρ (.tmp 17) = .pointer (some ⟨bd, 0, none⟩) := hs'.val' 17 0 (by kernel_rfl) rfl
          go_simp
          exact Ord.post_val rfl rfl
        · refine Ord.owes_plain rfl fun ρ Os wo hs' hb hc' => ?_
          have h18 : ρ (.tmp 18) = .pointer (some ⟨bd, 0, none⟩) := hs'.val' 18 1 (by kernel_rfl) rfl
          go_simp
          exact Ord.post_val rfl rfl
        · refine Ord.owes_plain rfl fun ρ Os wo hs' hb hc' => ?_
          have h19 : ρ (.tmp 19) = .pointer (some ⟨bd, 0, none⟩) := hs'.val' 19 2 (by kernel_rfl) rfl
          have c0 : wo.cell? ⟨bd, 0, none⟩ = some (.map (some bmd)) := (hb.undrew.cell (lt_blk HCD.out.box) (fun e => HCD.out.ne e.symm)).trans (cell_blk HCD.out.box 0)
          go_simp
          exact Ord.post_val rfl rfl
        · refine Ord.owes_plain rfl fun ρ Os wo hs' hb hc' => ?_
          have h4 : ρ (.tmp 4) = .string key := hs'.old' 4 (by kernel_rfl)
          exact Any.ok_move (Ord.post_val rfl h4)
        · refine Ord.owes_plain rfl fun ρ Os wo hs' hb hc' => ?_
          have h5 : ρ (.tmp 5) = sv := hs'.old' 5 (by kernel_rfl)
          exact Any.ok_move (Ord.post_val rfl h5)
        · refine Ord.owes_plain rfl fun ρ Os wo hs' hb hc' => ?_
          have h22 : ρ (.tmp 22) = sv := hs'.val' 22 5 (by kernel_rfl) rfl
          have hf := hs'.func 25
          have hf := hs'.func 25
          go_simp
          exact (clonePg_any (R key) sv wo (sl_keepP HSV.out hb.undrew HOF.out) HSL.out).mono fun e w' ⟨v', he, ho', hb'⟩ => ⟨v', he, Ord.post_new ⟨ownsRow_base ho' (Nat.zero_le _), fun b => Iff.rfl⟩ hb' (fun b h => (ho'.lt b h).1)⟩
        · refine Ord.owes_plain rfl fun ρ Os wo hs' hb hc' => ?_
          have h20 : ρ (.tmp 20) = .map (some bmd) := hs'.val' 20 3 (by kernel_rfl) rfl
          have h21 : ρ (.tmp 21) = .string key := hs'.val' 21 4 (by kernel_rfl) rfl
          obtain ⟨-, hr1, hr2⟩ := hs'.new' 23 6 (by kernel_rfl)
          have hmap : Mp.MapAt wo bmd md := HCD.out.map.same (hs'.here bmd rfl)
          refine Mp.ok_update (key := key) (v := ρ (.tmp 23)) Try.underlying58 Try.underlying9 h20 h21 rfl hmap fun w' h1 h2 h3 => ?_
          refine ⟨fun b => b = bmd ∨ (ρ (.tmp 23)).ownBlock = some b, ⟨_, Any.ownsRow_same hr1 (fun b hob => h2.block b (hr1.lt b hob).2 (fun e => ?_)), h1, fun _ => Iff.rfl⟩, ⟨h2.os, h2.tape, h2.output⟩, h2.size, fun b hlt _ hne => h2.block b hlt (fun e => hne (Option.some.inj e)), fun b hb => ?_⟩
          · exact row_ne_mapP hr1 hmap (hob.trans e)
          · rcases hb with rfl | hb
            · exact .inr (.inr rfl)
            · exact .inl ⟨6, List.mem_singleton.2 rfl, (hr2 b).2 hb⟩
      · intro vals Os ρs wS hk hkn hln hap hbd
        obtain ⟨v', k1, k2, k3⟩ := hkn 7 (by kernel_rfl)
        have hbd7 := hbd 7 (by kernel_rfl)
        have HKF := Lib.hid hk
        have K1 := Lib.hid k1
        have K2 := Lib.hid k2
        have K3 : Hid (∀ g, v'.ownBlock = some g → wc.heap.size ≤ g) := Lib.hid fun g hg => (hbd7 g ((k3 g).2 (.inr hg))).resolve_right (fun e => row_ne_mapP k1 k2 (e ▸ hg))
        clear hkn hap hbd hk k1 k2 k3 hbd7
        simp only [Any.putAll]
        go_frame
        go_wp2_with fail
        go_roundw
        case rel =>
          obtain ⟨F', c1, c2⟩ := copy_stepP HCD.out HRN.out HTD.out HKF.out K1.out K3.out K2.out
          refine ⟨F', Mp.mput md key v', Mp.mdel todo key, c1, fun b h => (c2 b h).elim (HFB.out b) (fun h => Nat.le_trans HBELC.out.size h), IterAt.keep HITC.out HKF.out HNR.out HNB.out, HKF.out.behind HBELC.out HBELC.out.size (fun k hk e => by have := HBD.out; omega), ?_, ?_, ?_⟩
          · intro q hq
            exact HSUB.out q (List.mem_filter.1 hq).1
          · exact Mp.mdel_keys_nodup key HND.out
          · intro h
            rcases c2 _ h with h1 | h1
            · exact HNF.out h1
            · have := HWC.out; omega
        case measure =>
          rw [Mp.itLeft_eq (IterAt.keep HITC.out HKF.out HNR.out HNB.out), Mp.itLeft_eq HIT0.out]
          exact Mp.mdel_lt HTD.out
end Go.Proofs.Ytnlfhncbnfmccaa.Sc
