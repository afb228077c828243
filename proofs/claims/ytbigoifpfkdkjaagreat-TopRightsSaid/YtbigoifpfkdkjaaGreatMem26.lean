/- Liens in memory: a map of rows of pledges. -/
import Derived.Test.YtbigoifpfkdkjaaGreatCon26
import Derived.Test.YtbigoifpfkdkjaaGreatKeep
import Derived.Test.YtbigoifpfkdkjaaGreatMapD
import Derived.Test.YtbigoifpfkdkjaaGreatGrow
namespace Go.Proofs.YtbigoifpfkdkjaaGreat.Sc
open Go Go.RowKit Go.ChangeShapes Go.WideShapes Go.ChangeAt
set_option maxRecDepth 100000

def PgBox (w : World) (b : Nat) (p : Pg) : Prop :=
  w.cell? ⟨b, 0, none⟩ = some (.string p.thing) ∧ w.cell? ⟨b, 1, none⟩ = some (.string p.debtor) ∧ w.cell? ⟨b, 2, none⟩ = some (.string p.cred) ∧ w.cell? ⟨b, 3, none⟩ = some (.int .i64 p.day) ∧ w.cell? ⟨b, 4, none⟩ = some (.int .i64 p.amt) ∧ w.cell? ⟨b, 5, none⟩ = some (.bool p.held)
theorem pgBox_of {w : World} {b : Nat} {p : Pg} {T : TypeId} (h : w.heap[b]? = some (.cells p.cells T (0, 0))) : PgBox w b p := ⟨cell_blk h 0, cell_blk h 1, cell_blk h 2, cell_blk h 3, cell_blk h 4, cell_blk h 5⟩
theorem zeroRow (w : World) : (zeroValue 22).run Tryz.prog w = .ok (.slice none 0 0) w := by kernel_rfl
def rowV (es : Mp.Ents) (t : ByteArray) : Value := (Mp.mget es t).getD (.slice none 0 0)
/-- Liens in memory: R tells each thing's pledges; n is their number; F: the blocks that are theirs. -/
structure LnAt (w : World) (F : Nat → Prop) (bk bm : Nat) (R : ByteArray → List Pg) (n : Nat) (es : Mp.Ents) : Prop where
  box : w.heap[bk]? = some (.cells #[.map (some bm), .int .i64 n] 49 (0, 0))
  map : Mp.MapAt w bm es
  rows : ∀ t v, Mp.mget es t = some v → w.ownsRow 0 27 6 v (R t).length (pgCells (R t)) ∧ R t ≠ []
  miss : ∀ t, Mp.mget es t = none → R t = []
  own : ∀ t v g, Mp.mget es t = some v → v.ownBlock = some g → F g ∧ g ≠ bk ∧ g ≠ bm
  apart : ∀ t u v v' g, Mp.mget es t = some v → Mp.mget es u = some v' → v.ownBlock = some g → v'.ownBlock = some g → t = u
  fk : F bk
  fm : F bm
  ne : bm ≠ bk
  lt : ∀ k, F k → k < w.heap.size
variable {w w' : World} {F G : Nat → Prop} {bk bm n : Nat} {R : ByteArray → List Pg} {es : Mp.Ents}
theorem LnAt.keep (h : LnAt w F bk bm R n es) (k : Keep G w w') (hG : ∀ b, F b → ¬ G b) : LnAt w' F bk bm R n es :=
  ⟨k.blk h.box (hG _ h.fk), h.map.same (k.block _ (h.lt _ h.fm) (hG _ h.fm)), fun t v ht => ⟨ownsRow_keep (h.rows t v ht).1 k (fun g hg => hG _ (h.own t v g ht hg).1), (h.rows t v ht).2⟩, h.miss, h.own, h.apart, h.fk, h.fm, h.ne, fun i hi => Nat.lt_of_lt_of_le (h.lt i hi) k.size⟩
theorem LnAt.below (h : LnAt w F bk bm R n es) (k : Below w.heap.size w w') : LnAt w' F bk bm R n es := h.keep (Keep.of_below (F := fun _ => False) k) (fun _ _ h => h)
theorem LnAt.row (h : LnAt w F bk bm R n es) (t : ByteArray) : w.ownsRow 0 27 6 (rowV es t) (R t).length (pgCells (R t)) := by
  unfold rowV
  cases hg : Mp.mget es t with
  | none =>
    rw [h.miss t hg]
    exact World.ownsRow_nil _ _ _ _
  | some v => exact (h.rows t v hg).1
theorem LnAt.rowB (h : LnAt w F bk bm R n es) {t : ByteArray} {g : Nat} (hg : (rowV es t).ownBlock = some g) : F g ∧ g ≠ bk ∧ g ≠ bm := by
  unfold rowV at hg
  cases hv : Mp.mget es t with
  | none => rw [hv] at hg; cases hg
  | some v => rw [hv] at hg; exact h.own t v g hv hg
/-- A thing's row is another one. -/
theorem LnAt.set (h : LnAt w F bk bm R n es) {t : ByteArray} {v' : Value} {r : List Pg} {n' : Nat} (hr : r ≠ []) (k : Keep (fun b => b = bk ∨ b = bm ∨ (rowV es t).ownBlock = some b) w w')
    (hbox : w'.heap[bk]? = some (.cells #[.map (some bm), .int .i64 n'] 49 (0, 0))) (hmap : Mp.MapAt w' bm (Mp.mput es t v')) (hrow : w'.ownsRow 0 27 6 v' r.length (pgCells r))
    (hnew : ∀ g, v'.ownBlock = some g → (rowV es t).ownBlock = some g ∨ w.heap.size ≤ g) : LnAt w' (fun b => F b ∨ (w.heap.size ≤ b ∧ b < w'.heap.size)) bk bm (fun u => if u = t then r else R u) n' (Mp.mput es t v') := by
  have hgv : ∀ g, v'.ownBlock = some g → (F g ∨ (w.heap.size ≤ g ∧ g < w'.heap.size)) ∧ g ≠ bk ∧ g ≠ bm := fun g hg => by
    rcases hnew g hg with h1 | h1
    · have h2 := h.rowB h1
      exact ⟨.inl h2.1, h2.2⟩
    · have h2 := h.lt _ h.fk
      have h3 := h.lt _ h.fm
      exact ⟨.inr ⟨h1, (hrow.lt g hg).2⟩, by omega, by omega⟩
  have hoff : ∀ u v g, u ≠ t → Mp.mget es u = some v → v.ownBlock = some g → ¬ (g = bk ∨ g = bm ∨ (rowV es t).ownBlock = some g) := fun u v g hu hv hg hx => by
    have h1 := h.own u v g hv hg
    rcases hx with rfl | rfl | hx
    · exact h1.2.1 rfl
    · exact h1.2.2 rfl
    · unfold rowV at hx
      cases hv2 : Mp.mget es t with
      | none => rw [hv2] at hx; cases hx
      | some v2 => rw [hv2] at hx; exact hu (h.apart u t v v2 g hv hv2 hg hx)
  refine ⟨hbox, hmap, ?_, ?_, ?_, ?_, .inl h.fk, .inl h.fm, h.ne, fun i hi => hi.elim (fun h1 => Nat.lt_of_lt_of_le (h.lt i h1) k.size) (fun h1 => h1.2)⟩
  · intro u v hu
    by_cases e : u = t
    · subst e
      rw [Mp.mget_mput_same] at hu
      obtain rfl := Option.some.inj hu
      rw [if_pos rfl]
      exact ⟨hrow, hr⟩
    · rw [Mp.mget_mput_other _ _ e] at hu
      rw [if_neg e]
      exact ⟨ownsRow_keep (h.rows u v hu).1 k (fun g hg => hoff u v g e hu hg), (h.rows u v hu).2⟩
  · intro u hu
    by_cases e : u = t
    · subst e
      rw [Mp.mget_mput_same] at hu
      cases hu
    · rw [Mp.mget_mput_other _ _ e] at hu
      rw [if_neg e]
      exact h.miss u hu
  · intro u v g hu hg
    by_cases e : u = t
    · subst e
      rw [Mp.mget_mput_same] at hu
      obtain rfl := Option.some.inj hu
      exact hgv g hg
    · rw [Mp.mget_mput_other _ _ e] at hu
      have := h.own u v g hu hg
      exact ⟨.inl this.1, this.2⟩
  · intro u x v v2 g hu hx hg hg2
    by_cases e : u = t
    · by_cases e2 : x = t
      · rw [e, e2]
      · subst e
        rw [Mp.mget_mput_same] at hu
        obtain rfl := Option.some.inj hu
        rw [Mp.mget_mput_other _ _ e2] at hx
        rcases hnew g hg with h1 | h1
        · exact absurd (.inr (.inr h1)) (hoff x v2 g e2 hx hg2)
        · have := h.lt g (h.own x v2 g hx hg2).1
          omega
    · rw [Mp.mget_mput_other _ _ e] at hu
      by_cases e2 : x = t
      · subst e2
        rw [Mp.mget_mput_same] at hx
        obtain rfl := Option.some.inj hx
        rcases hnew g hg2 with h1 | h1
        · exact absurd (.inr (.inr h1)) (hoff u v g e hu hg)
        · have := h.lt g (h.own u v g hu hg).1
          omega
      · rw [Mp.mget_mput_other _ _ e2] at hx
        exact h.apart u x v v2 g hu hx hg hg2
/-- A thing has no pledges more. -/
theorem LnAt.del (h : LnAt w F bk bm R n es) {t : ByteArray} {n' : Nat} (k : Keep (fun b => b = bk ∨ b = bm) w w')
    (hbox : w'.heap[bk]? = some (.cells #[.map (some bm), .int .i64 n'] 49 (0, 0))) (hmap : Mp.MapAt w' bm (Mp.mdel es t)) : LnAt w' F bk bm (fun u => if u = t then [] else R u) n' (Mp.mdel es t) := by
  have hget : ∀ u v, Mp.mget (Mp.mdel es t) u = some v → u ≠ t ∧ Mp.mget es u = some v := fun u v hu => by
    rw [Mp.mget_mdel] at hu
    by_cases e : t = u
    · rw [if_pos e] at hu; cases hu
    · rw [if_neg e] at hu; exact ⟨fun x => e x.symm, hu⟩
  refine ⟨hbox, hmap, ?_, ?_, ?_, ?_, h.fk, h.fm, h.ne, fun i hi => Nat.lt_of_lt_of_le (h.lt i hi) k.size⟩
  · intro u v hu
    obtain ⟨e, hu⟩ := hget u v hu
    rw [if_neg e]
    exact ⟨ownsRow_keep (h.rows u v hu).1 k (fun g hg => fun hx => by
      have := h.own u v g hu hg
      rcases hx with rfl | rfl
      · exact this.2.1 rfl
      · exact this.2.2 rfl), (h.rows u v hu).2⟩
  · intro u hu
    by_cases e : u = t
    · rw [if_pos e]
    · rw [if_neg e]
      rw [Mp.mget_mdel, if_neg (fun x => e x.symm)] at hu
      exact h.miss u hu
  · intro u v g hu hg
    exact h.own u v g (hget u v hu).2 hg
  · intro u x v v2 g hu hx hg hg2
    exact h.apart u x v v2 g (hget u v hu).2 (hget x v2 hx).2 hg hg2
/-- What a call that turns liens hands back. -/
def LnP (w : World) (F : Nat → Prop) (bk bm : Nat) (R : ByteArray → List Pg) (n : Nat) (v : Value) (e : Ending) (w' : World) : Prop := ∃ F' es', e = .returned v ∧ LnAt w' F' bk bm R n es' ∧ (∀ k, F' k → F k ∨ w.heap.size ≤ k) ∧ Keep F w w'
end Go.Proofs.YtbigoifpfkdkjaaGreat.Sc
