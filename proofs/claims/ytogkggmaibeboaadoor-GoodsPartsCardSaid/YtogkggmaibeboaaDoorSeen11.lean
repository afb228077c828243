/- The classes seen: a map of them, in memory and plainly. -/
import Derived.Test.YtogkggmaibeboaaDoorPartsPl11
import Derived.Test.YtogkggmaibeboaaDoorKMapU
namespace Go.Proofs.YtogkggmaibeboaaDoor.Sc
open Go Go.RowKit
set_option maxRecDepth 100000

def addI (S : List Int) (a : Int) : List Int := if a ∈ S then S else S ++ [a]
def insI (L S : List Int) : List Int := L.foldl addI S
def seenV (S : List Int) : List (Int × Value) := S.map fun a => (a, Value.bool true)
theorem mem_addI {S : List Int} {a x : Int} : x ∈ addI S a ↔ x ∈ S ∨ x = a := by
  unfold addI
  split
  · rename_i h
    exact ⟨.inl, fun h1 => h1.elim id (fun e => e ▸ h)⟩
  · simp
theorem addI_nodup {S : List Int} (h : S.Nodup) (a : Int) : (addI S a).Nodup := by
  unfold addI
  split
  · exact h
  · rename_i h1
    exact List.nodup_append.2 ⟨h, by simp, fun x hx y hy e => h1 (by obtain rfl := List.mem_singleton.1 hy; exact e ▸ hx)⟩
theorem mem_insI : ∀ {L S : List Int} {x : Int}, x ∈ insI L S ↔ x ∈ S ∨ x ∈ L
  | [], S, x => by simp [insI]
  | a :: r, S, x => by
    have := @mem_insI r (addI S a) x
    rw [insI, List.foldl_cons, ← insI, this, mem_addI, List.mem_cons, or_assoc]
theorem insI_take {L S : List Int} {k : Nat} (h : k < L.length) : insI (L.take (k + 1)) S = addI (insI (L.take k) S) L[k] := by
  rw [List.take_succ_eq_append_getElem h, insI, List.foldl_append]
  rfl
theorem kget_seen (S : List Int) (a : Int) : Km.kget (seenV S) a = if a ∈ S then some (.bool true) else none := by
  induction S with
  | nil => rfl
  | cons b r ih =>
    rw [seenV, List.map_cons, Km.kget]
    by_cases h : a = b
    · subst h; simp
    · have h' : ¬ b = a := fun e => h e.symm
      rw [← seenV, ih]
      simp [h]
theorem putK_seen (S : List Int) (a : Int) : Km.putK (seenV S) a (.bool true) = seenV (addI S a) := by
  rw [Km.putK, kget_seen, addI]
  by_cases h : a ∈ S
  · simp only [if_pos h]
  · simp only [if_neg h]
    simp [seenV]
theorem seenV_fst (S : List Int) : (seenV S).map Prod.fst = S := by
  unfold seenV
  rw [List.map_map]
  exact List.map_id S
theorem len_same {L S : List Int} (h1 : L.Nodup) (h2 : S.Nodup) (h : ∀ a, a ∈ L ↔ a ∈ S) : L.length = S.length := ((List.perm_ext_iff_of_nodup h1 h2).2 h).length_eq
theorem up_nodup {L : List Int} (h : L.Pairwise (· < ·)) : L.Nodup := h.imp fun h e => by omega
/-- The map in memory. -/
def SeenAt (w : World) (b : Nat) (S : List Int) : Prop := Km.KMapAt Tryd.prog 3 (Value.int .i64) w b (seenV S) ∧ S.Nodup
theorem SeenAt.same {w w' : World} {b : Nat} {S : List Int} (h : SeenAt w b S) (he : w'.heap[b]? = w.heap[b]?) : SeenAt w' b S := ⟨h.1.same he, h.2⟩
theorem SeenAt.below {w w' : World} {B b : Nat} {S : List Int} (h : SeenAt w b S) (hb : b < B) (hw : Below B w w') : SeenAt w' b S := h.same (hw.block b hb)
theorem SeenAt.made (w : World) : SeenAt (w.alloc (.map #[] 0)) w.heap.size [] := ⟨Km.KMapAt.made _ _ _, List.nodup_nil⟩
theorem int_inj (a b : Int) (h : Value.int .i64 a = Value.int .i64 b) : a = b := by injection h
theorem key_cls {c : Int} (h : 0 ≤ c ∧ c < 10) : keyOf Tryd.prog 3 (.int .i64 c) = some (.int .i64 c) := Maps.keyOf_int_mk Tryd.underlying3 (by
  have h1 : IntKind.i64.min = -9223372036854775808 := by rfl
  have h2 : IntKind.i64.max = 9223372036854775807 := by rfl
  simp [Lit.wf, h1, h2]; omega)
section
variable {w : World} {ops : Array Oper} {Q : Exit → Act → World → Prop} {dst : Option Tmp} {ty : TypeId} {pos : String} {after : Array Edge} {gd : Option (Nat × Bool)} {a : Act} {rest : List Oper} {ρ : Operand → Value} {R : Value → World → Prop}
theorem wpl_see {m x y : Operand} {b : Nat} {S : List Int} {c : Int} (hw : Region.wanted ⟨dst, .mapUpdate 53 m x y, ty, pos, after, gd⟩ (yielded ops a.tmps) = true)
    (hm : a.eval m = .map (some b)) (hx : a.eval x = .int .i64 c) (hy : a.eval y = .bool true) (h : SeenAt w b S) (hc : 0 ≤ c ∧ c < 10)
    (hR : ∀ w', SeenAt w' b (addI S c) → w.grownBy w' (some b) → wpList Tryd.prog ops Q rest (a.put dst undef) w') : wpList Tryd.prog ops Q (⟨dst, .mapUpdate 53 m x y, ty, pos, after, gd⟩ :: rest) a w :=
  Km.wpl_put (enc := Value.int .i64) (key := c) hw hm hx hy Tryd.underlying53 (Maps.int_keyed Tryd.underlying3) int_inj h.1 (by rw [seenV_fst]; exact h.2) (key_cls hc)
    (fun u hu => by
      rw [kget_seen] at hu
      split at hu
      · exact (Option.some.inj hu).symm
      · cases hu)
    (fun w' h1 h2 _ => hR w' ⟨by rw [putK_seen] at h1; exact h1, addI_nodup h.2 c⟩ h2)
theorem ok_seen {m x : Operand} {b : Nat} {S : List Int} {c : Int} (hm : ρ m = .map (some b)) (hx : ρ x = .int .i64 c) (h : SeenAt w b S) (hc : 0 ≤ c ∧ c < 10) (hin : c ∈ S) (hR : R (.bool true) w) :
    Any.OpOk Tryd.prog ⟨dst, .lookup 53 m x false, ty, pos, after, gd⟩ ρ w R :=
  Km.ok_lookup (enc := Value.int .i64) (a := c) (z := .bool false) Tryd.underlying53 (Maps.int_keyed Tryd.underlying3) int_inj (by kernel_rfl) hm hx h.1 (by rw [seenV_fst]; exact h.2) (key_cls hc)
    (by rw [kget_seen, if_pos hin]; exact hR)
theorem wpl_lenS {x : Operand} {b : Nat} {S : List Int} (hw : Region.wanted ⟨dst, .call ⟨.builtin .len, #[x], #[53]⟩, ty, pos, after, gd⟩ (yielded ops a.tmps) = true)
    (hx : a.eval x = .map (some b)) (h : SeenAt w b S) (hR : wpList Tryd.prog ops Q rest (a.put dst (.int .i64 S.length)) w) : wpList Tryd.prog ops Q (⟨dst, .call ⟨.builtin .len, #[x], #[53]⟩, ty, pos, after, gd⟩ :: rest) a w :=
  Km.wpl_lenK hw hx Tryd.underlying53 h.1 (by simpa [seenV] using hR)
end
end Go.Proofs.YtogkggmaibeboaaDoor.Sc
