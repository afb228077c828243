/- maps.Copy into an empty map, and Copy of a bond. -/
import Derived.Test.YtehlhfcaajhhaaaRefB45
namespace Go.Proofs.Ytehlhfcaajhhaaa.Mp
open Go Go.RowKit
def itLeft (w : World) (r b : Nat) : Nat :=
  match w.heap[r]?, w.heap[b]? with
  | some (.mapIter _ _ seen _), some (.map es _) => (leftOf es seen).size
  | _, _ => 0
theorem itLeft_eq {w : World} {r b : Nat} {l todo : Ents} (h : IterAt w r b l todo) : itLeft w r b = todo.length := by
  obtain ⟨es, clock, since, seen, c0, hr, hb, _, _, _, _, _, _, hl⟩ := h
  unfold itLeft
  rw [hr, hb]
  have := hl.length
  simpa using this
theorem mdel_nodup {l : Ents} (k : ByteArray) (h : (mkeys l).Nodup) : (mkeys (mdel l k)).Nodup := by
  have : (mkeys (mdel l k)).Sublist (mkeys l) := List.filter_sublist.map _
  exact this.nodup h
theorem mdel_lt {l : Ents} {k : ByteArray} {v : Value} (h : (k, v) ∈ l) : (mdel l k).length < l.length := by
  rcases Nat.lt_or_ge (mdel l k).length l.length with h1 | h1
  · exact h1
  · exfalso
    have h2 := List.length_filter_le (fun p : ByteArray × Value => !decide (k = p.1)) l
    have h3 : (mdel l k).length = l.length := Nat.le_antisymm h2 h1
    have h4 := List.length_filter_eq_length_iff.1 h3 (k, v) h
    simp at h4
theorem perm_mdel {key : ByteArray} {v : Value} : ∀ {l : Ents}, (mkeys l).Nodup → (key, v) ∈ l → l.Perm ((key, v) :: mdel l key)
  | [], _, h => by simp at h
  | p :: r, hn, h => by
    simp only [mkeys, List.map_cons, List.nodup_cons] at hn
    rcases List.mem_cons.1 h with rfl | h'
    · have : mdel ((key, v) :: r) key = r := by
        rw [mdel, List.filter_cons_of_neg (by simp)]
        refine List.filter_eq_self.2 fun q hq => ?_
        have : ¬ key = q.1 := fun e => hn.1 (List.mem_map.2 ⟨q, hq, e.symm⟩)
        simp [this]
      rw [this]
    · have hk : ¬ key = p.1 := fun e => hn.1 (List.mem_map.2 ⟨(key, v), h', e⟩)
      have : mdel (p :: r) key = p :: mdel r key := by rw [mdel, List.filter_cons_of_pos (by simp [hk])]; rfl
      rw [this]
      exact ((perm_mdel hn.2 h').cons p).trans (List.Perm.swap _ _ _)
end Go.Proofs.Ytehlhfcaajhhaaa.Mp
namespace Go.Proofs.Ytehlhfcaajhhaaa.Sc
open Go Go.RowKit Go.ChangeShapes Go.WideShapes Go.ChangeAt
set_option maxRecDepth 100000

/-- Entries of a bond: three numbers each. -/
def Three (es : Mp.Ents) : Prop := ∀ p ∈ es, ∃ a b c : Int, p.2 = .agg #[.int .i64 a, .int .i64 b, .int .i64 c]
theorem three_of {es : Mp.Ents} {l : List Bx} (h : es.Perm (bEnts l)) : Three es := fun p hp => by
  obtain ⟨b, -, rfl⟩ := List.mem_map.1 (h.mem_iff.1 hp)
  exact ⟨_, _, _, rfl⟩
set_option maxHeartbeats 4000000 in
theorem mapCopy_any (es : Mp.Ents) (bd bs : Nat) (w : World) (h0 : Mp.MapAt w bd []) (h1 : Mp.MapAt w bs es) (hne : ¬ bd = bs) (ht : Three es) :
    Calls Try.prog 45 #[.map (some bd), .map (some bs)] w (fun e w' => e = .returned (.tuple #[]) ∧ (∃ fs, Mp.MapAt w' bd fs ∧ fs.Perm es) ∧ Keep (fun k => k = bd) w w') := by
  have HD0 := Lib.hid h0
  have HS0 := Lib.hid h1
  have HNE := Lib.hid hne
  have HTH := Lib.hid ht
  have HLT := Lib.hid h0.lt
  have HLS := Lib.hid h1.lt
  clear h0 h1 hne ht
  go_enter Try.func45, Try.ntmps45
  go_wp2_with (first
    | ((with_reducible refine Mp.wpl_range (b := bs) (l := es) ?_ ?_ Try.underlying93 HS0.out ?_); rfl; rfl; intro w1 hit ha; have HIT := Lib.hid hit; have HB1 : Hid (Below w.heap.size w w1) := Lib.hid (by obtain ⟨o, rfl⟩ := ha; exact one_below _ _); clear hit ha; go_frame)
    | fail)
  obtain ⟨r, hr⟩ : ∃ r, r = w.heap.size := ⟨_, rfl⟩
  have HR := Lib.hid hr
  rw [← hr] at HIT ⊢
  clear hr
  go_loopw [4, 5] (fun _ _ wr => ∃ done todo : Mp.Ents, Mp.MapAt wr bd done ∧ Mp.IterAt wr r bs es todo ∧ (done ++ todo).Perm es ∧ Keep (fun k => k = bd) w wr) (fun _ _ wr => Mp.itLeft wr r bs)
  case atStart => exact ⟨[], es, HD0.out.same (HB1.out.block _ HLT.out), HIT.out, List.Perm.refl _, Keep.of_below HB1.out⟩
  case round =>
    obtain ⟨done, todo, hd, hit, hp, hk⟩ := hrel
    have HD := Lib.hid hd
    have HIT2 := Lib.hid hit
    have HP := Lib.hid hp
    have HK := Lib.hid hk
    clear hd hit hp hk
    go_wp2_with (first
      | ((with_reducible refine Mp.wpl_next ?_ ?_ HIT2.out ?_ ?_); rfl; rfl)
      | fail)
    · intro h0
      have HT := Lib.hid h0
      clear h0
      go_wp2_with fail
      go_end0
      refine ⟨rfl, ⟨done, HD.out, ?_⟩, HK.out⟩
      have := HP.out
      rwa [HT.out, List.append_nil] at this
    · intro key sv wc hmem hitc hgc hsc hen
      have HMEM := Lib.hid hmem
      have HITC := Lib.hid hitc
      have HGC := Lib.hid hgc
      obtain ⟨x, y, z, rfl⟩ : ∃ x y z : Int, sv = .agg #[.int .i64 x, .int .i64 y, .int .i64 z] := HTH.out _ (HP.out.mem_iff.1 (List.mem_append.2 (.inr hmem)))
      have HDC : Hid (Mp.MapAt wc bd done) := Lib.hid (HD.out.same (hgc.block bd HD.out.lt (fun e => by have := HR.out; have := HLT.out; have e' := Option.some.inj e; omega)))
      have HKC : Hid (Keep (fun k => k = bd) w wc) := Lib.hid (HK.out.trans (Keep.of_grown hgc) (fun i hi e => by have := HR.out; have e' := Option.some.inj e; omega))
      clear hmem hitc hgc hsc
      go_wp2_with (first
        | ((with_reducible refine Mp.wpl_update (b := bd) (l := done) (key := key) (v := .agg #[.int .i64 x, .int .i64 y, .int .i64 z]) ?_ ?_ ?_ ?_ Try.underlying93 Try.underlying9 (HDC.out.same (Below.heap_alloc _ _ _ HDC.out.lt)) ?_); rfl; rfl; rfl; rfl; intro w5 hm5 hg5 hz5; have HM5 := Lib.hid hm5; have HG5 := Lib.hid hg5; clear hm5 hg5 hz5; go_frame)
        | fail)
      have hnd : (Mp.mkeys (done ++ todo)).Nodup := (HP.out.map Prod.fst).nodup_iff.2 HS0.out.nodup
      have hkn : key ∉ Mp.mkeys done := fun hh => by
        rw [Mp.mkeys, List.map_append, List.nodup_append] at hnd
        exact hnd.2.2 _ hh _ (List.mem_map.2 ⟨_, HMEM.out, rfl⟩) rfl
      have hnt : (Mp.mkeys todo).Nodup := by
        rw [Mp.mkeys, List.map_append, List.nodup_append] at hnd
        exact hnd.2.1
      have HIT5 : Hid (Mp.IterAt w5 r bs es (Mp.mdel todo key)) := Lib.hid (HITC.out.same
        ((HG5.out.block r (Nat.lt_of_lt_of_le HITC.out.lt.1 (by simp)) (fun e => by have := HR.out; have := HLT.out; have e' := Option.some.inj e; omega)).trans (Below.heap_alloc _ _ _ HITC.out.lt.1))
        ((HG5.out.block bs (Nat.lt_of_lt_of_le HITC.out.lt.2 (by simp)) (fun e => HNE.out (Option.some.inj e).symm)).trans (Below.heap_alloc _ _ _ HITC.out.lt.2)))
      have HM6 := Lib.hid (Mp.mput_new (.agg #[.int .i64 x, .int .i64 y, .int .i64 z]) hkn)
      have HPM := Lib.hid (Mp.perm_mdel hnt HMEM.out)
      clear hnd hkn hnt hen
      go_roundw
      case rel =>
        refine ⟨done ++ [(key, .agg #[.int .i64 x, .int .i64 y, .int .i64 z])], Mp.mdel todo key, by rw [← HM6.out]; exact HM5.out, HIT5.out, ?_, (HKC.out.trans (Keep.alloc (fun _ => False) _ _) (fun _ _ e => e.elim)).trans (Keep.of_grown HG5.out) (fun i _ e => (Option.some.inj e).symm)⟩
        refine List.Perm.trans ?_ HP.out
        rw [List.append_assoc]
        exact HPM.out.symm.append_left done
      case measure =>
        rw [Mp.itLeft_eq HIT5.out, Mp.itLeft_eq HIT2.out]
        exact Mp.mdel_lt HMEM.out
end Go.Proofs.Ytehlhfcaajhhaaa.Sc
