/- Guarded operations of a drawn region whose guard is known: they run as any other, or not at all. No program in sight. A field's slice grows by one element, in a drawn region: the new element in a slice of its own, append, the store into the field. No program in sight. -/
import Derived.Test.YtnbhneeohkfocaaDoorTo04
namespace Go.Proofs.YtnbhneeohkfocaaDoor.Sc
open Go Go.RowKit
theorem below_undrew {B : Nat} {w w' : World} (h : Below B w.drew w') : Below B w w' := ⟨h.os, h.tape, h.output, h.size, h.block⟩
end Go.Proofs.YtnbhneeohkfocaaDoor.Sc
namespace Go.Proofs.YtnbhneeohkfocaaDoor.Any
open Go Go.RowKit
section
variable {P : Program} {ops : Array Oper} {S : Nat → Spec} {w0 : World} {a0 : Act}
theorem owes_on {i : Nat} {o : Oper} {j : Nat} {want : Bool} {d : Tmp} (hg : o.guard = some (j, want)) (hd : (ops[j]?).bind (·.dst) = some d) (hseen : ((o.looksAt ops).contains d && (writer ops d == some j && !late ops i j)) = true)
    (hSj : S j = val (.bool want)) (h : ∀ ρ w, Sees ops S w0 a0 i o ρ w → Below w0.heap.size w0 w → (∀ c, ρ (.const c) = c) → OpOk P o ρ w (Post ops S w0 i ρ w)) : Owes P ops S w0 a0 i o := by
  intro ρ w hs
  have hb : ρ (.tmp d) = .bool want := by
    have := hs.new' d j hseen
    rw [hSj] at this
    exact this
  have hw : wantR ops ρ o = true := by unfold wantR; rw [hg]; simp only [hd, hb, beq_self_eq_true]
  rw [if_pos hw]
  exact h ρ w hs hs.below hs.const
theorem owes_off {i : Nat} {o : Oper} {j : Nat} {want b : Bool} {d : Tmp} (hg : o.guard = some (j, want)) (hd : (ops[j]?).bind (·.dst) = some d) (hseen : ((o.looksAt ops).contains d && (writer ops d == some j && !late ops i j)) = true)
    (hSj : S j = val (.bool b)) (hb : b ≠ want) (hS : S i = idle) : Owes P ops S w0 a0 i o := by
  intro ρ w hs
  have hv : ρ (.tmp d) = .bool b := by
    have := hs.new' d j hseen
    rw [hSj] at this
    exact this
  have hw : wantR ops ρ o = false := by unfold wantR; rw [hg]; simp [hd, hv, hb]
  rw [if_neg (by simp [hw]), hS]
  exact ⟨trivial, rfl⟩
end
end Go.Proofs.YtnbhneeohkfocaaDoor.Any
namespace Go.Proofs.YtnbhneeohkfocaaDoor.Ord
open Go Go.RowKit Any
section
variable {P : Program} {ops : Array Oper} {S : Nat → Spec} {F : Nat → Prop} {w0 : World} {a0 : Act}
theorem owes_on {i : Nat} {o : Oper} {j : Nat} {want : Bool} {d : Tmp} (hg : o.guard = some (j, want)) (hd : (ops[j]?).bind (·.dst) = some d) (hseen : ((o.looksAt ops).contains d && (writer ops d == some j && !late ops i j)) = true)
    (hSj : S j = val (.bool want)) (h : ∀ ρ Os w, Sees ops S F w0 a0 i o ρ Os w → Sc.Keep F w0 w → (∀ c, ρ (.const c) = c) → OpOk P o ρ w (Post S Os i ρ w)) : Owes P ops S F w0 a0 i o := by
  intro ρ Os w hs
  have hb : ρ (.tmp d) = .bool want := hs.val' d j hseen hSj
  have hw : wantR ops ρ o = true := by unfold wantR; rw [hg]; simp only [hd, hb, beq_self_eq_true]
  rw [if_pos hw]
  exact h ρ Os w hs hs.keep hs.const
/-- .. whose guard is known among other things. -/
theorem owes_onk {i : Nat} {o : Oper} {j : Nat} {want : Bool} {d : Tmp} (hg : o.guard = some (j, want)) (hd : (ops[j]?).bind (·.dst) = some d) (hseen : ((o.looksAt ops).contains d && (writer ops d == some j && !late ops i j)) = true)
    (hSj : ∀ ρ v O w, (S j).know ρ v O w → v = .bool want) (h : ∀ ρ Os w, Sees ops S F w0 a0 i o ρ Os w → Sc.Keep F w0 w → (∀ c, ρ (.const c) = c) → OpOk P o ρ w (Post S Os i ρ w)) : Owes P ops S F w0 a0 i o := by
  intro ρ Os w hs
  have hb : ρ (.tmp d) = .bool want := by
    obtain ⟨_, h1⟩ := hs.new' d j hseen
    exact hSj _ _ _ _ h1
  have hw : wantR ops ρ o = true := by unfold wantR; rw [hg]; simp only [hd, hb, beq_self_eq_true]
  rw [if_pos hw]
  exact h ρ Os w hs hs.keep hs.const
theorem owes_off {i : Nat} {o : Oper} {j : Nat} {want b : Bool} {d : Tmp} (hg : o.guard = some (j, want)) (hd : (ops[j]?).bind (·.dst) = some d) (hseen : ((o.looksAt ops).contains d && (writer ops d == some j && !late ops i j)) = true)
    (hSj : S j = val (.bool b)) (hb : b ≠ want) (hS : S i = idle) : Owes P ops S F w0 a0 i o := by
  intro ρ Os w hs
  have hv : ρ (.tmp d) = .bool b := hs.val' d j hseen hSj
  have hw : wantR ops ρ o = false := by unfold wantR; rw [hg]; simp [hd, hv, hb]
  rw [if_neg (by simp [hw]), hS]
  exact fun _ h => h
end
end Go.Proofs.YtnbhneeohkfocaaDoor.Ord
namespace Go.Proofs.YtnbhneeohkfocaaDoor.Ord
open Go Go.RowKit Any

theorem set_grown (w : World) (b o : Nat) (u : Value) : w.grownBy (w.setCell ⟨b, o, none⟩ u) (some b) :=
  ⟨rfl, rfl, rfl, by simp [World.setCell], fun k _ hne => Below.heap_setCell w _ u k (fun e => hne (by rw [e]))⟩
/-- A new slice of one element. -/
def one (e : TypeId) (cs : Array Value) : Spec := ⟨fun _ v O w => ∃ b, v = .slice (some ⟨b, 0, none⟩) 1 1 ∧ w.heap[b]? = some (.cells cs e (0, 0)) ∧ ∀ b', O b' ↔ b' = b, [], fun _ => False⟩
/-- A row that took the place of v0, out of operation j's element. -/
def grown (e : TypeId) (sz n : Nat) (xs : List Value) (j : Nat) (v0 : Value) : Spec := ⟨fun _ v O w => w.ownsRow 0 e sz v n xs ∧ ∀ b, O b ↔ v.ownBlock = some b, [j], fun k => v0.ownBlock = some k⟩
/-- A row of the region's own, made of other operations' values. -/
def own (B : Nat) (e : TypeId) (sz n : Nat) (xs : List Value) (tk : List Nat) : Spec := ⟨fun _ v O w => w.ownsRow B e sz v n xs ∧ ∀ b, O b ↔ v.ownBlock = some b, tk, fun _ => False⟩
theorem lasts_own {F : Nat → Prop} {w0 : World} (B : Nat) (e : TypeId) (sz n : Nat) (xs : List Value) (tk : List Nat) : Lasts F (own B e sz n xs tk) w0 :=
  ⟨fun _ _ _ _ h b hb => (h.1.lt b ((h.2 b).1 hb)).2, fun _ _ _ _ _ h _ _ _ hs => ⟨Any.ownsRow_same h.1 (fun b hb => hs b ((h.2 b).2 hb)), h.2⟩⟩
/-- Block b's cells, operation j's row among them. -/
def kept (e : TypeId) (sz n : Nat) (xs : List Value) (b : Nat) (cells : Value → Array Value) (T : TypeId) (j : Nat) : Spec :=
  ⟨fun _ _ O w => ∃ v, w.ownsRow 0 e sz v n xs ∧ w.heap[b]? = some (.cells (cells v) T (0, 0)) ∧ ∀ k, O k ↔ (k = b ∨ v.ownBlock = some k), [j], fun k => k = b⟩

/-- A new box; a box whose pointer was operand x, of operation j, stored into. -/
def box (T : TypeId) (cs : Array Value) : Spec := ⟨fun _ v O w => ∃ b, v = .pointer (some ⟨b, 0, none⟩) ∧ w.heap[b]? = some (.cells cs T (0, 0)) ∧ ∀ k, O k ↔ k = b, [], fun _ => False⟩
def filled (T : TypeId) (cs : Array Value) (x : Operand) (j : Nat) : Spec := ⟨fun ρ _ O w => ∃ b, ρ x = .pointer (some ⟨b, 0, none⟩) ∧ w.heap[b]? = some (.cells cs T (0, 0)) ∧ ∀ k, O k ↔ k = b, [j], fun _ => False⟩
theorem lasts_box {F : Nat → Prop} {w0 : World} (T : TypeId) (cs : Array Value) : Lasts F (box T cs) w0 :=
  ⟨fun _ _ _ _ h b hb => by
    obtain ⟨b', _, h2, h3⟩ := h
    exact (h3 b).1 hb ▸ Sc.lt_blk h2, fun _ _ _ _ _ h _ _ _ hs => by
    obtain ⟨b', h1, h2, h3⟩ := h
    exact ⟨b', h1, (hs b' ((h3 b').2 rfl)).trans h2, h3⟩⟩
theorem lasts_filled {F : Nat → Prop} {w0 : World} (T : TypeId) (cs : Array Value) (x : Operand) (j : Nat) : Lasts F (filled T cs x j) w0 :=
  ⟨fun _ _ _ _ h b hb => by
    obtain ⟨b', _, h2, h3⟩ := h
    exact (h3 b).1 hb ▸ Sc.lt_blk h2, fun _ _ _ _ _ h _ _ _ hs => by
    obtain ⟨b', h1, h2, h3⟩ := h
    exact ⟨b', h1, (hs b' ((h3 b').2 rfl)).trans h2, h3⟩⟩
theorem lasts_one {F : Nat → Prop} {w0 : World} (e : TypeId) (cs : Array Value) : Lasts F (one e cs) w0 :=
  ⟨fun _ _ _ _ h b hb => by
    obtain ⟨b', _, h2, h3⟩ := h
    exact (h3 b).1 hb ▸ Sc.lt_blk h2, fun _ _ _ _ _ h _ _ _ hs => by
    obtain ⟨b', h1, h2, h3⟩ := h
    exact ⟨b', h1, (hs b' ((h3 b').2 rfl)).trans h2, h3⟩⟩
theorem lasts_grown {F : Nat → Prop} {w0 : World} (e : TypeId) (sz n : Nat) (xs : List Value) (j : Nat) (v0 : Value) : Lasts F (grown e sz n xs j v0) w0 :=
  ⟨fun _ _ _ _ h b hb => (h.1.lt b ((h.2 b).1 hb)).2, fun _ _ _ _ _ h _ _ _ hs => ⟨Any.ownsRow_same h.1 (fun b hb => hs b ((h.2 b).2 hb)), h.2⟩⟩
theorem lasts_kept {F : Nat → Prop} {w0 : World} (e : TypeId) (sz n : Nat) (xs : List Value) (b : Nat) (cells : Value → Array Value) (T : TypeId) (j : Nat) : Lasts F (kept e sz n xs b cells T j) w0 :=
  ⟨fun _ _ _ _ h k hk => by
    obtain ⟨v', h1, h2, h3⟩ := h
    rcases (h3 k).1 hk with rfl | h4
    · exact Sc.lt_blk h2
    · exact (h1.lt k h4).2, fun _ _ _ _ _ h _ _ _ hs => by
    obtain ⟨v', h1, h2, h3⟩ := h
    exact ⟨v', Any.ownsRow_same h1 (fun k hk => hs k ((h3 k).2 (.inr hk))), (hs b ((h3 b).2 (.inl rfl))).trans h2, h3⟩⟩

section
variable {P : Program} {S : Nat → Spec} {Os : Nat → Nat → Prop} {dst : Option Tmp} {t : TypeId} {pos : String} {after : Array Edge} {gd : Option (Nat × Bool)} {ρ : Operand → Value} {w w0 : World} {i : Nat}
theorem post_one {e : TypeId} {cs : Array Value} (hS : S i = one e cs) : Post S Os i ρ w (.slice (some ⟨w.heap.size, 0, none⟩) 1 1) (w.alloc (.cells cs e (0, 0))) :=
  post_new (O := fun b => b = w.heap.size) (by rw [hS]; exact ⟨_, rfl, heap_alloc_new _ _, fun _ => Iff.rfl⟩) (Sc.one_below _ _) (fun b hb => Nat.le_of_eq hb.symm)
theorem ok_grown {te e : TypeId} {z : Value} {size bytes n j : Nat} {v0 : Value} {xs : List Value} {cs : Array Value} {x y : Operand} {ti : TypeInfo} (hu : P.underlying te = some (.slice e)) (hi : P.info? e = some ti) (hz : ti.zero = some z)
    (hsz : ti.size = size) (hby : ti.bytes = bytes) (hzs : z.cells.size = size) (hpos : 0 < size) (hx : ρ x = v0) (hy : ∃ ρ', (one e cs).know ρ' (ρ y) (Os j) w) (hown : w0.ownsRow 0 e size v0 n xs)
    (hkeep : ∀ b, v0.ownBlock = some b → w.heap[b]? = w0.heap[b]?) (hcs : cs.size = size) (h1 : ∀ u ∈ cs.toList, u.oneCell' = true) (h63 : n + 1 ≤ maxLen) (hb : (n + 1) * bytes ≤ 140737488355328)
    (hS : S i = grown e size (n + 1) (xs ++ cs.toList) j v0) : OpOk P ⟨dst, .call ⟨.builtin .append, #[x, y], #[te, te]⟩, t, pos, after, gd⟩ ρ w (Post S Os i ρ w) := by
  obtain ⟨_, g, hg, hgb, -⟩ := hy
  have hown' : w.ownsRow 0 e size (ρ x) n xs := by rw [hx]; exact Any.ownsRow_same hown hkeep
  have hsrc : Sc.Src w size (ρ y) 1 cs.toList := by rw [hg]; exact Sc.src_block hgb (by simp [hcs])
  refine Any.ok_append_own hu hi hz hsz hby hzs hpos hown' hsrc h1 h63 hb (Nat.zero_le _) fun v' w' h1 h2 h3 => ?_
  rw [hx] at h2 h3
  refine ⟨fun b => v'.ownBlock = some b, by rw [hS]; exact ⟨h1, fun b => Iff.rfl⟩, ⟨h2.os, h2.tape, h2.output⟩, h2.size, fun b hlt _ hne => h2.block b hlt (fun e => hne (by rw [hS]; exact e.symm)), fun b hb => ?_⟩
  rw [hS]
  rcases h3 b hb with h4 | h4
  · exact .inr (.inr h4)
  · exact .inr (.inl h4)
theorem ok_kept {e T : TypeId} {size n j b off : Nat} {xs : List Value} {cells : Value → Array Value} {cs : Array Value} {x y : Operand} {t' : TypeId} (hp : ρ x = .pointer (some ⟨b, off, none⟩))
    (hy : ∃ _ρ : Operand → Value, w.ownsRow 0 e size (ρ y) n xs ∧ ∀ k, Os j k ↔ (ρ y).ownBlock = some k) (hblk : w0.heap[b]? = some (.cells cs T (0, 0))) (hkeep : w.heap[b]? = w0.heap[b]?) (hoff : off < cs.size) (hne : e ≠ T)
    (hcells : ∀ v, cs.setIfInBounds off v = cells v) (hone : ∀ w, (sizeOf t').run P w = .ok 1 w) (hS : S i = kept e size n xs b cells T j) : OpOk P ⟨dst, .store t' x y, t, pos, after, gd⟩ ρ w (Post S Os i ρ w) := by
  obtain ⟨_, hrow, hOs⟩ := hy
  have hb := hkeep.trans hblk
  have hc : w.cell? ⟨b, off, none⟩ = some cs[off] := by rw [Sc.cell_blk hb, Array.getElem?_eq_getElem hoff]
  have hf : w.frozen? ⟨b, off, none⟩ = false := Sc.free_blk hb off
  obtain ⟨a, len, cap, hv⟩ : ∃ a len cap, ρ y = .slice a len cap := by
    rcases hrow.2 with ⟨h, _⟩ | ⟨g, cap, cur, h, _⟩
    · exact ⟨_, _, _, h⟩
    · exact ⟨_, _, _, h⟩
  have hset : (w.setCell ⟨b, off, none⟩ (ρ y)).heap[b]? = some (.cells (cells (ρ y)) T (0, 0)) := by
    simp [World.setCell, Array.getElem?_modify, hb, hcells]
  have hg := set_grown w b off (ρ y)
  have hrb : ∀ k, (ρ y).ownBlock = some k → k ≠ b := by
    rintro k hk rfl
    rcases hrow.2 with ⟨h, _⟩ | ⟨g, cap, cur, h, _, hh, _⟩
    · rw [h] at hk; cases hk
    · rw [h] at hk
      obtain rfl : g = k := Option.some.inj hk
      rw [hb] at hh
      simp only [Option.some.injEq, Obj.cells.injEq] at hh
      exact hne hh.2.1.symm
  have hpost : Post S Os i ρ w undef (w.setCell ⟨b, off, none⟩ (ρ y)) := by
    refine ⟨fun k => k = b ∨ (ρ y).ownBlock = some k, ?_, ⟨hg.os, hg.tape, hg.output⟩, hg.size, fun k hlt _ hn => hg.block k hlt (fun e => hn (by rw [hS]; show k = b; simp only [Option.some.injEq] at e; omega)), fun k hk => ?_⟩
    · rw [hS]
      exact ⟨ρ y, Any.ownsRow_same hrow (fun k hk => hg.block k (hrow.lt k hk).2 (fun e => hrb k hk (Option.some.inj e))), hset, fun k => Iff.rfl⟩
    · rcases hk with rfl | hk
      · exact .inr (.inr (by rw [hS]; exact rfl))
      · exact .inl ⟨j, by rw [hS]; exact List.mem_cons_self, (hOs k).2 hk⟩
  rw [hv] at hpost
  unfold OpOk
  simp only [execOp, hp, hv, Instr.storeAt, Instr.sureAddr, Sem.run_bind, Sem.run_pure, Result.andThen_ok]
  have hr : ((storeVar t' ⟨b, off, none⟩ (.slice a len cap)).run P w) = .ok () (w.setCell ⟨b, off, none⟩ (.slice a len cap)) := by
    have h1 := hone w
    go_simp
  simp [hr, Result.andThen]
  exact hpost

/-- A box stored into, its old cells forgotten. -/
theorem ok_filled {T : TypeId} {j : Nat} {cs old : Array Value} {x y : Operand} (hp : ∃ ρ', (box T old).know ρ' (ρ x) (Os j) w) (hy : ρ y = .agg cs) (hi : (P.info? T).map (·.size) = some cs.size) (hold : old.size = cs.size) (h1 : cs.all (·.oneCell') = true)
    (hS : S i = filled T cs x j) : OpOk P ⟨dst, .store T x y, t, pos, after, gd⟩ ρ w (Post S Os i ρ w) := by
  obtain ⟨_, g, hg, hgb, hO⟩ := hp
  have hr := run_storeVar_row (P := P) w g T T old cs hgb hi hold h1
  have hpost : Post S Os i ρ w undef (w.setRow g cs) := by
    refine ⟨fun k => k = g, ?_, ⟨rfl, rfl, rfl⟩, by simp [World.setRow], fun k _ hn _ => ?_, fun k hk => .inl ⟨j, by rw [hS]; exact List.mem_cons_self, (hO k).2 hk⟩⟩
    · rw [hS]
      exact ⟨g, hg, by simp [World.setRow, Array.getElem?_modify, hgb], fun _ => Iff.rfl⟩
    · have hkg : ¬ g = k := fun e => hn j (by rw [hS]; exact List.mem_cons_self) ((hO k).2 e.symm)
      simp [World.setRow, Array.getElem?_modify, hkg]
  unfold OpOk
  simp only [execOp, hg, hy, Instr.storeAt, Instr.sureAddr, Sem.run_bind, Sem.run_pure, Result.andThen_ok]
  simp [hr, Result.andThen]
  exact hpost
theorem post_box {T : TypeId} {cs : Array Value} (hS : S i = box T cs) : Post S Os i ρ w (.pointer (some ⟨w.heap.size, 0, none⟩)) (w.alloc (.cells cs T (0, 0))) :=
  post_new (O := fun b => b = w.heap.size) (by rw [hS]; exact ⟨_, rfl, heap_alloc_new _ _, fun _ => Iff.rfl⟩) (Sc.one_below _ _) (fun b hb => Nat.le_of_eq hb.symm)
/-- A row of the region's own, out of operations' values. -/
theorem post_own0 {e : TypeId} {B sz : Nat} (hB : B ≤ w.heap.size) (hS : S i = own B e sz 0 [] []) : Post S Os i ρ w (.slice (some ⟨w.heap.size, 0, none⟩) 0 0) (w.alloc (.cells #[] e (0, 0))) :=
  post_new (O := fun b => b = w.heap.size) (by
    rw [hS]
    refine ⟨⟨by simp, .inr ⟨w.heap.size, 0, #[], rfl, hB, heap_alloc_new _ _, Nat.le_refl _, by simp [maxLen], by simp, by simp⟩⟩, fun b => ?_⟩
    simp only [Value.ownBlock, Option.some.injEq]
    exact eq_comm) (Sc.one_below _ _) (fun b hb => Nat.le_of_eq hb.symm)
theorem ok_own_append {te e : TypeId} {z : Value} {size bytes n m B j : Nat} {xs news : List Value} {tk : List Nat} {x y : Operand} {ti : TypeInfo} (hu : P.underlying te = some (.slice e)) (hi : P.info? e = some ti) (hz : ti.zero = some z)
    (hsz : ti.size = size) (hby : ti.bytes = bytes) (hzs : z.cells.size = size) (hpos : 0 < size) (hx : ∃ _ρ : Operand → Value, w.ownsRow B e size (ρ x) n xs ∧ ∀ k, Os j k ↔ (ρ x).ownBlock = some k) (hy : Sc.Src w size (ρ y) m news)
    (h1 : ∀ u ∈ news, u.oneCell' = true) (h63 : n + m ≤ maxLen) (hb : (n + m) * bytes ≤ 140737488355328) (hB : B ≤ w.heap.size) (hj : j ∈ tk) (hS : S i = own B e size (n + m) (xs ++ news) tk) :
    OpOk P ⟨dst, .call ⟨.builtin .append, #[x, y], #[te, te]⟩, t, pos, after, gd⟩ ρ w (Post S Os i ρ w) := by
  obtain ⟨_, hrow, hO⟩ := hx
  refine Any.ok_append_own hu hi hz hsz hby hzs hpos hrow hy h1 h63 hb hB fun v' w' h1 h2 h3 => ?_
  refine ⟨fun b => v'.ownBlock = some b, by rw [hS]; exact ⟨h1, fun b => Iff.rfl⟩, ⟨h2.os, h2.tape, h2.output⟩, h2.size, fun b hlt hn _ => h2.block b hlt (fun e => hn j (by rw [hS]; exact hj) ((hO b).2 e.symm)), fun b hb => ?_⟩
  rcases h3 b hb with h4 | h4
  · exact .inl ⟨j, by rw [hS]; exact hj, (hO b).2 h4⟩
  · exact .inr (.inl h4)
end
end Go.Proofs.YtnbhneeohkfocaaDoor.Ord
namespace Go.Proofs.YtnbhneeohkfocaaDoor.Sc
open Go Go.RowKit
/-- A new slice of nothing. -/
theorem own_empty {w : World} {B sz : Nat} {e : TypeId} (h : B ≤ w.heap.size) : (w.alloc (.cells #[] e (0, 0))).ownsRow B e sz (.slice (some ⟨w.heap.size, 0, none⟩) 0 0) 0 [] :=
  ⟨by simp, .inr ⟨w.heap.size, 0, #[], rfl, h, heap_alloc_new _ _, Nat.le_refl _, by simp [maxLen], by simp, by simp⟩⟩
end Go.Proofs.YtnbhneeohkfocaaDoor.Sc
