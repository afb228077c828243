/- A chain in memory: its map of histories; what a beginning and a hand-over make of it. -/
import Derived.Test.YtmjblefjaccocaaRefD17
namespace Go.Proofs.Ytmjblefjaccocaa.Sc
open Go Go.RowKit Go.ChangeShapes Go.WideShapes Go.ChangeAt Mp

/-- A history of the map: a row of its own. -/
def Hist (w : World) (F : Nat → Prop) (v : Value) (hs : List Hd) : Prop :=
  w.ownsRow 0 41 5 v hs.length (hdCells hs) ∧ 0 < hs.length ∧ ∃ g, v.ownBlock = some g ∧ F g
structure Ch (w : World) (F : Nat → Prop) (bp bm : Nat) (l : Ents) (done : List Hd) : Prop where
  ptr : w.heap[bp]? = some (.cells #[.map (some bm)] 62 (0, 0))
  map : MapAt w bm l
  own : F bp ∧ F bm
  hist : ∀ k v, (k, v) ∈ l → Hist w F v (ownOf done k)
  all : ∀ k, ownOf done k ≠ [] → k ∈ mkeys l
  apart : ∀ k v k' v', (k, v) ∈ l → (k', v') ∈ l → k ≠ k' → v.ownBlock ≠ v'.ownBlock
  few : l.length ≤ done.length
  lt : ∀ b, F b → b < w.heap.size
/-- p is a chain of what was done; its blocks lie in F. -/
def Chain (w : World) (F : Nat → Prop) (p : Value) (done : List Hd) : Prop := ∃ bp bm l, p = .pointer (some ⟨bp, 0, none⟩) ∧ Ch w F bp bm l done

theorem Hist.keep {w w' : World} {F G : Nat → Prop} {v : Value} {hs : List Hd} (h : Hist w F v hs) (k : Keep G w w') (hG : ∀ b, F b → ¬ G b) : Hist w' F v hs :=
  ⟨ownsRow_keep h.1 k (fun b hb => by
    obtain ⟨g, hg, hF⟩ := h.2.2
    rw [hg] at hb
    obtain rfl := Option.some.inj hb
    exact hG _ hF), h.2.1, h.2.2⟩
theorem Ch.keep {w w' : World} {F G : Nat → Prop} {bp bm : Nat} {l : Ents} {done : List Hd} (h : Ch w F bp bm l done) (k : Keep G w w') (hG : ∀ b, F b → ¬ G b) : Ch w' F bp bm l done :=
  ⟨k.blk h.ptr (hG _ h.own.1), MapAt.keep h.map k (hG _ h.own.2), h.own, fun x v hx => Hist.keep (h.hist x v hx) k hG, h.all, h.apart, h.few, fun b hb => Nat.lt_of_lt_of_le (h.lt b hb) k.size⟩
theorem Chain.keep {w w' : World} {F G : Nat → Prop} {p : Value} {done : List Hd} (h : Chain w F p done) (k : Keep G w w') (hG : ∀ b, F b → ¬ G b) : Chain w' F p done := by
  obtain ⟨bp, bm, l, rfl, h⟩ := h
  exact ⟨bp, bm, l, rfl, h.keep k hG⟩
theorem Chain.lt {w : World} {F : Nat → Prop} {p : Value} {done : List Hd} (h : Chain w F p done) : ∀ b, F b → b < w.heap.size := by
  obtain ⟨bp, bm, l, rfl, h⟩ := h
  exact h.lt
/-- The chain stands while its own blocks do. -/
theorem Chain.stands {w0 w w' : World} {F G : Nat → Prop} {p : Value} {done : List Hd} (h : Chain w F p done) (h1 : Keep G w0 w) (h2 : Keep G w0 w') (hs : w.heap.size ≤ w'.heap.size) (hk : ∀ b, F b → w'.heap[b]? = w.heap[b]?) : Chain w' F p done :=
  h.keep (G := fun b => ¬ F b) ⟨h2.os.trans h1.os.symm, h2.tape.trans h1.tape.symm, h2.output.trans h1.output.symm, hs, fun k _ hn => hk k (Classical.not_not.1 hn)⟩ (fun _ hb hn => hn hb)
theorem Ch.below {w w' : World} {F : Nat → Prop} {bp bm : Nat} {l : Ents} {done : List Hd} (h : Ch w F bp bm l done) (k : Below w.heap.size w w') : Ch w' F bp bm l done := h.keep (Keep.of_below (F := fun _ => False) k) (fun _ _ h => h)
theorem Chain.below {w w' : World} {F : Nat → Prop} {p : Value} {done : List Hd} (h : Chain w F p done) (k : Below w.heap.size w w') : Chain w' F p done := h.keep (Keep.of_below (F := fun _ => False) k) (fun _ _ h => h)

/-- Behind a call that turns the chain: its answer; the chain as it stands now. -/
def After (w : World) (F : Nat → Prop) (n : Int) (p : Value) (done : List Hd) (e : Ending) (w' : World) : Prop :=
  e = .returned (.int .i64 n) ∧ Keep F w w' ∧ ∃ F', Chain w' F' p done ∧ ∀ b, F' b → F b ∨ w.heap.size ≤ b

theorem after_same {w w' : World} {F : Nat → Prop} {n m : Int} {p : Value} {done : List Hd} (hc : Chain w F p done) (hb : Below w.heap.size w w') (h : m = n) : After w F n p done (.returned (.int .i64 m)) w' := by
  subst h
  exact ⟨rfl, .of_below hb, F, hc.below hb, fun b h => .inl h⟩

theorem mem_mput {l : Ents} {k k' : ByteArray} {v v' : Value} (hn : (mkeys l).Nodup) (h : (k', v') ∈ mput l k v) : (k' = k ∧ v' = v) ∨ (k' ≠ k ∧ (k', v') ∈ l) := by
  have h1 := mget_of_mem (mput_nodup k v hn) h
  by_cases hk : k' = k
  · subst hk
    rw [mget_mput_same] at h1
    exact .inl ⟨rfl, (Option.some.inj h1).symm⟩
  · rw [mget_mput_other l v hk] at h1
    exact .inr ⟨hk, mem_of_mget h1⟩
theorem ownOf_snoc (done : List Hd) (h : Hd) (k : ByteArray) : ownOf (done ++ [h]) k = ownOf done k ++ if h.box = k then [h] else [] := by
  rw [ownOf, List.filter_append]
  simp only [ownOf, List.filter_cons, List.filter_nil, decide_eq_true_eq]
theorem mget_has {w : World} {F : Nat → Prop} {bp bm : Nat} {l : Ents} {done : List Hd} (h : Ch w F bp bm l done) (k : ByteArray) :
    (∃ v, mget l k = some v ∧ Hist w F v (ownOf done k)) ∨ (mget l k = none ∧ ownOf done k = []) := by
  cases hm : mget l k with
  | some v => exact .inl ⟨v, rfl, h.hist k v (mem_of_mget hm)⟩
  | none =>
    refine .inr ⟨rfl, ?_⟩
    by_cases ho : ownOf done k = []
    · exact ho
    · exact absurd (h.all k ho) (mget_none.1 hm)

/-- What a hand-over's box has now, in memory: its history's block. -/
def AtBox (l : Ents) (box : ByteArray) (b : Nat) : Prop := ∃ v, mget l box = some v ∧ v.ownBlock = some b
theorem ch_row {w : World} {F : Nat → Prop} {bp bm : Nat} {l : Ents} {done : List Hd} (hc : Ch w F bp bm l done) {k : ByteArray} {v : Value} (hkv : (k, v) ∈ l) {g : Nat} (hg : v.ownBlock = some g) :
    F g ∧ g < w.heap.size ∧ g ≠ bp ∧ g ≠ bm := by
  obtain ⟨h1, _, g1, h3, h4⟩ := hc.hist k v hkv
  rw [hg] at h3
  obtain rfl := Option.some.inj h3
  refine ⟨h4, (h1.lt _ hg).2, ?_⟩
  rcases h1.2 with ⟨rfl, _⟩ | ⟨g2, cap, cur, rfl, _, hh, _⟩
  · cases hg
  · obtain rfl : g2 = g := Option.some.inj hg
    constructor
    · rintro rfl
      have := hc.ptr
      rw [hh] at this
      simp at this
    · rintro rfl
      obtain ⟨es, clock, hm, _⟩ := hc.map
      rw [hm] at hh
      cases hh
theorem ch_ne {w : World} {F : Nat → Prop} {bp bm : Nat} {l : Ents} {done : List Hd} (hc : Ch w F bp bm l done) : bp ≠ bm := by
  rintro rfl
  obtain ⟨es, clock, hm, _⟩ := hc.map
  rw [hc.ptr] at hm
  cases hm
/-- The map's entry at the hand-over's box stands for the history with it behind. -/
theorem ch_put {w w2 : World} {F : Nat → Prop} {bp bm : Nat} {l : Ents} {done : List Hd} {h : Hd} {v' : Value} (hc : Ch w F bp bm l done) (hk : Keep (fun b => b = bm ∨ AtBox l h.box b) w w2)
    (hv : w2.ownsRow 0 41 5 v' ((ownOf done h.box).length + 1) (hdCells (ownOf done h.box ++ [h])))
    (hb : ∃ g, v'.ownBlock = some g ∧ (w.heap.size ≤ g ∨ AtBox l h.box g)) (hm : MapAt w2 bm (mput l h.box v')) :
    Keep F w w2 ∧ ∃ F', Ch w2 F' bp bm (mput l h.box v') (done ++ [h]) ∧ ∀ b, F' b → F b ∨ w.heap.size ≤ b := by
  obtain ⟨g, hvg, hgs⟩ := hb
  refine ⟨hk.mono ?_, fun b => F b ∨ b = g, ⟨?_, hm, ⟨.inl hc.own.1, .inl hc.own.2⟩, ?_, ?_, ?_, ?_, ?_⟩, ?_⟩
  · rintro b _ (rfl | ⟨v, h1, h2⟩)
    · exact hc.own.2
    · exact (ch_row hc (mem_of_mget h1) h2).1
  · refine hk.blk hc.ptr ?_
    rintro (h1 | ⟨v, h1, h2⟩)
    · exact ch_ne hc h1
    · exact (ch_row hc (mem_of_mget h1) h2).2.2.1 rfl
  · intro k v hkv
    rcases mem_mput hc.map.nodup hkv with ⟨rfl, rfl⟩ | ⟨hne, hkv⟩
    · refine ⟨?_, ?_, g, hvg, .inr rfl⟩
      · rw [ownOf_snoc, if_pos rfl, List.length_append, List.length_singleton]
        exact hv
      · rw [ownOf_snoc, if_pos rfl]; simp
    · obtain ⟨h1, h2, g', h3, h4⟩ := hc.hist k v hkv
      have hne' : ¬ h.box = k := fun e => hne e.symm
      rw [ownOf_snoc, if_neg hne', List.append_nil]
      refine ⟨ownsRow_keep h1 hk ?_, h2, g', h3, .inl h4⟩
      intro b hb
      rw [h3] at hb
      obtain rfl := Option.some.inj hb
      rintro (h5 | ⟨v0, h5, h6⟩)
      · exact (ch_row hc hkv h3).2.2.2 h5
      · exact hc.apart _ _ _ _ hkv (mem_of_mget h5) hne (h3.trans h6.symm)
  · intro k hk
    rw [ownOf_snoc] at hk
    by_cases hkb : h.box = k
    · subst hkb
      by_cases hin : h.box ∈ mkeys l
      · rw [mput_keys_old _ hin]; exact hin
      · rw [mput_keys_new _ hin]; simp
    · rw [if_neg hkb, List.append_nil] at hk
      have := hc.all k hk
      by_cases hin : h.box ∈ mkeys l
      · rw [mput_keys_old _ hin]; exact this
      · rw [mput_keys_new _ hin]; simp [this]
  · intro k v k' v' hkv hkv' hne
    have key : ∀ k v, k ≠ h.box → (k, v) ∈ l → v.ownBlock ≠ some g := by
      intro k v hk hkv e
      rcases hgs with h5 | ⟨v0, h5, h6⟩
      · have := (ch_row hc hkv e).2.1; omega
      · exact hc.apart _ _ _ _ hkv (mem_of_mget h5) hk (e.trans h6.symm)
    rcases mem_mput hc.map.nodup hkv with ⟨rfl, rfl⟩ | ⟨hne1, hkv1⟩ <;> rcases mem_mput hc.map.nodup hkv' with ⟨rfl, rfl⟩ | ⟨hne2, hkv2⟩
    · exact absurd rfl hne
    · rw [hvg]; exact fun e => key _ _ hne2 hkv2 e.symm
    · rw [hvg]; exact key _ _ hne1 hkv1
    · exact hc.apart _ _ _ _ hkv1 hkv2 hne
  · have h1 := mput_length_le l h.box v'
    have h2 := hc.few
    simp only [List.length_append, List.length_singleton]
    omega
  · rintro b (h1 | rfl)
    · exact Nat.lt_of_lt_of_le (hc.lt b h1) hk.size
    · exact (hv.lt b hvg).2
  · rintro b (h1 | rfl)
    · exact .inl h1
    · rcases hgs with h5 | ⟨v0, h5, h6⟩
      · exact .inr h5
      · exact .inl (ch_row hc (mem_of_mget h5) h6).1
end Go.Proofs.Ytmjblefjaccocaa.Sc
