/- An append to an own row: what stays of the memory, cell by cell, where the row's spare cells are zero. No program in sight. -/
import Derived.Test.YticnmmfiadpbbaaAny
namespace Go.Proofs.Yticnmmfiadpbbaa.Sc
open Go Go.RowKit Go.ChangeShapes Go.WideShapes Go.ChangeAt
set_option maxRecDepth 100000

/-- The cells of an own row behind its elements. -/
def Spare (w : World) (size n : Nat) (v : Value) (Z : Value → Prop) : Prop := ∀ g, v.ownBlock = some g → ∀ j u, n * size ≤ j → w.cell? ⟨g, j, none⟩ = some u → Z u
theorem spare_nil (w : World) (size : Nat) (Z : Value → Prop) : Spare w size 0 (.slice none 0 0) Z := fun g hg => by cases hg
theorem Spare.same {w w' : World} {size n : Nat} {v : Value} {Z : Value → Prop} (h : Spare w size n v Z) (hk : ∀ b, v.ownBlock = some b → w'.heap[b]? = w.heap[b]?) : Spare w' size n v Z := fun g hg j u hj hc =>
  h g hg j u hj ((World.cell?_of_block (a := ⟨g, j, none⟩) (hk g hg)).symm.trans hc)
theorem zeroCells_mem {z : Array Value} (hz : 0 < z.size) {n j : Nat} {u : Value} (h : (Builtin.zeroCells z n)[j]? = some u) : u ∈ z.toList := by
  unfold Builtin.zeroCells at h
  rw [Array.getElem?_map] at h
  cases hr : (Array.range (n * z.size))[j]? with
  | none => rw [hr] at h; cases h
  | some i =>
    rw [hr] at h
    obtain rfl := Option.some.inj h
    have hlt : i % z.size < z.size := Nat.mod_lt _ hz
    show z[i % z.size]! ∈ z.toList
    rw [getElem!_pos z _ hlt]
    exact Array.getElem_mem_toList hlt
/-- What an append keeps. -/
structure Kept (w w' : World) (size n : Nat) (v : Value) : Prop where
  more : w.heap.size ≤ w'.heap.size
  cell : ∀ b o u, w.cell? ⟨b, o, none⟩ = some u → ¬ (v.ownBlock = some b ∧ n * size ≤ o) → w'.cell? ⟨b, o, none⟩ = some u
theorem kept_refl (w : World) (size n : Nat) (v : Value) : Kept w w size n v := ⟨Nat.le_refl _, fun _ _ _ h _ => h⟩
theorem block_of_cell {w : World} {b o : Nat} {u : Value} (h : w.cell? ⟨b, o, none⟩ = some u) : b < w.heap.size := World.block_lt_of_cell? w _ h
theorem kept_alloc (w : World) (o : Obj) (size n : Nat) (v : Value) : Kept w (w.drew.alloc o) size n v :=
  ⟨by simp, fun b k u h _ => (World.cell?_of_block (a := ⟨b, k, none⟩) (heap_alloc_old w.drew o (block_of_cell h))).trans h⟩
theorem run_append_z {P : Program} (w : World) (base : Nat) (t ty e : TypeId) (i : TypeInfo) (z : Value) (size bytes : Nat) (ht : P.underlying t = some (.slice e)) (hi : P.info? e = some i) (hz : i.zero = some z)
    (hsize : i.size = size) (hby : i.bytes = bytes) (hzs : z.cells.size = size) (hsz : 0 < size) (v y : Value) (n m : Nat) (xs news : List Value) (hown : w.ownsRow base e size v n xs) (hsp : Spare w size n v (fun u => u ∈ z.cells.toList)) (hy : Src w size y m news)
    (h1 : ∀ u ∈ news, u.oneCell' = true) (h63 : n + m ≤ maxLen) (hbytes : (n + m) * bytes ≤ 140737488355328) (hbase : base ≤ w.heap.size) :
    ∃ v' w', (Builtin.append_ #[t, t] ty #[v, y]).run P w = .ok v' w' ∧ w'.ownsRow base e size v' (n + m) (xs ++ news) ∧ Spare w' size (n + m) v' (fun u => u ∈ z.cells.toList) ∧ w.grownBy w' v.ownBlock ∧ (∀ b, v'.ownBlock = some b → v.ownBlock = some b ∨ w.heap.size ≤ b) ∧ Kept w w' size n v := by
  obtain ⟨hl, hy⟩ := hy
  rcases hy with ⟨rfl, rfl⟩ | ⟨ad, c, rfl, hc⟩
  · obtain rfl : news = [] := List.eq_nil_of_length_eq_zero (by simpa using hl)
    exact ⟨v, w, run_append_owned_none (P := P) (w := w) base t ty e i size ht hi v n xs hown, by simpa using hown, hsp, ⟨rfl, rfl, rfl, Nat.le_refl _, fun _ _ _ => rfl⟩, fun b hb => .inl hb, kept_refl _ _ _ _⟩
  · subst hsize
    subst hby
    have hlen : (xs ++ news).length = (n + m) * i.size := by rw [List.length_append, hown.1, hl, Nat.add_mul]
    have h63' : n + m ≤ 9223372036854775807 := by simp only [maxLen] at h63; omega
    have grown : ∀ (old : Nat), old < n + m → ∀ (row : Option Nat),
        (w.drew.alloc (.cells (xs.toArray ++ news.toArray ++ Builtin.zeroCells z.cells (grownCap w (n + m) old e - (n + m))) e)).ownsRow base e i.size
          (.slice (some ⟨w.heap.size, 0, none⟩) (n + m) (grownCap w (n + m) old e)) (n + m) (xs ++ news) ∧
        Spare (w.drew.alloc (.cells (xs.toArray ++ news.toArray ++ Builtin.zeroCells z.cells (grownCap w (n + m) old e - (n + m))) e)) i.size (n + m) (.slice (some ⟨w.heap.size, 0, none⟩) (n + m) (grownCap w (n + m) old e)) (fun u => u ∈ z.cells.toList) ∧
        w.grownBy (w.drew.alloc (.cells (xs.toArray ++ news.toArray ++ Builtin.zeroCells z.cells (grownCap w (n + m) old e - (n + m))) e)) row := by
      intro old ho row
      have hge := grownCap_ge w (n + m) old e
      have hcm : grownCap w (n + m) old e ≤ maxLen := grownCap_le_maxLen w (n + m) old e h63
      refine ⟨⟨hlen, .inr ⟨w.heap.size, _, _, rfl, hbase, heap_alloc_new w.drew _, hge, hcm, ?_, ?_⟩⟩, fun g hg j u hj hcell => ?_, ⟨rfl, rfl, rfl, by simp, fun k hk _ => heap_alloc_old w.drew _ hk⟩⟩
      · simp only [Array.size_append, List.size_toArray, size_zeroCells, hzs, hown.1, hl, ← Nat.add_mul]
        congr 1
        omega
      · simp only [Array.toList_append, List.append_assoc]
        rw [← List.append_assoc, ← hlen]
        exact List.take_left
      · obtain rfl : w.heap.size = g := Option.some.inj hg
        have hnw := heap_alloc_new w.drew (.cells (xs.toArray ++ news.toArray ++ Builtin.zeroCells z.cells (grownCap w (n + m) old e - (n + m))) e)
        have hcell := (cell_blk (b := w.heap.size) hnw j).symm.trans hcell
        rw [Array.getElem?_append_right (by simp only [Array.size_append, List.size_toArray]; rw [← List.length_append, hlen]; exact hj)] at hcell
        exact zeroCells_mem (by rw [hzs]; exact hsz) hcell
    rcases hown.2 with ⟨rfl, rfl⟩ | ⟨g, cap, cur, rfl, hbg, hg, hnc, hcm, hcs, htake⟩
    · have hx : xs = [] := List.eq_nil_of_length_eq_zero (by simpa using hown.1)
      subst hx
      by_cases hm : m = 0
      · subst hm
        have hn : news = [] := List.eq_nil_of_length_eq_zero (by simpa using hl)
        subst hn
        refine ⟨.slice none 0 0, w, ?_, World.ownsRow_nil w base e i.size, spare_nil _ _ _, ⟨rfl, rfl, rfl, Nat.le_refl _, fun _ _ _ => rfl⟩, by simp [Value.ownBlock], kept_refl _ _ _ _⟩
        simp [Builtin.append_, run_underlying ht, sizeOf, typeInfo, hi, Builtin.lenOf, Builtin.firstCells, loadCells, loadCellsFrom]
      · have hr := run_append_nil (P := P) w t ty e i z ht hi hz ad m c news hl hc (by omega) (by omega) (by have hb := hbytes; simp only [Nat.zero_add] at hb; omega)
        have hgr := grown 0 (by omega) (Value.ownBlock (.slice none 0 0))
        simp only [Nat.zero_add, List.nil_append, Array.empty_append] at hgr ⊢
        exact ⟨_, _, hr, hgr.1, hgr.2.1, hgr.2.2, fun b hb => .inr (by rw [show w.heap.size = b from Option.some.inj hb]; exact Nat.le_refl _), kept_alloc _ _ _ _ _⟩
    · by_cases hroom : n + m ≤ cap
      · have hfit : n * i.size + news.length ≤ cur.size := by rw [hl, hcs, ← Nat.add_mul]; exact Nat.mul_le_mul_right _ hroom
        have hr := run_append_room (P := P) w t ty e i ht hi g n cap cur hg ad m c news hl hc h1 hroom hfit
        have hnew := setRow_heap w g cur (cur.toList.take (n * i.size) ++ news ++ cur.toList.drop (n * i.size + news.length)).toArray e (0, 0) hg
        have hle : n * i.size ≤ cur.toList.length := by rw [Array.length_toList]; omega
        refine ⟨_, _, hr, ⟨hlen, .inr ⟨g, cap, _, rfl, hbg, hnew, hroom, hcm, ?_, ?_⟩⟩, fun g' hg' j u hj hcell => ?_, ⟨rfl, rfl, rfl, by simp, fun k _ hk => Go.setRow_other w g k _ (fun e => hk (by simp [Value.ownBlock, e]))⟩, fun b hb => .inl hb, by simp, fun b o u hcell hno => ?_⟩
        · simp only [List.size_toArray, List.length_append, List.length_take, List.length_drop, Array.length_toList]
          omega
        · rw [htake, ← hlen]
          exact List.take_left
        · obtain rfl : g = g' := Option.some.inj hg'
          rw [cell_blk hnew j, List.getElem?_toArray] at hcell
          have hj2 : n * i.size + news.length ≤ j := by rw [hl, ← Nat.add_mul]; exact hj
          rw [List.getElem?_append_right (by rw [List.length_append, List.length_take, Nat.min_eq_left hle]; exact hj2), List.length_append, List.length_take, Nat.min_eq_left hle, List.getElem?_drop] at hcell
          have hjj : n * i.size + news.length + (j - (n * i.size + news.length)) = j := by omega
          rw [hjj, Array.getElem?_toList] at hcell
          exact hsp g rfl j u (by omega) ((cell_blk hg j).trans hcell)
        · by_cases hb : b = g
          · subst hb
            have ho : o < n * i.size := Nat.lt_of_not_le fun h => hno ⟨rfl, h⟩
            rw [cell_blk hnew o, List.getElem?_toArray, List.append_assoc, List.getElem?_append_left (by rw [List.length_take, Nat.min_eq_left hle]; exact ho), List.getElem?_take, if_pos ho, Array.getElem?_toList, ← cell_blk hg o]
            exact hcell
          · exact (World.cell?_of_block (a := ⟨b, o, none⟩) (Go.setRow_other w g b _ hb)).trans hcell
      · have holds : ∀ j u, xs[j]? = some u → w.cell? ((⟨g, 0, none⟩ : Addr).add j) = some u := hown.cells (g := g) rfl
        have hr := run_append_grow (P := P) w t ty e i z ht hi hz ⟨g, 0, none⟩ n cap xs hown.1 holds ad m c news hl hc (by omega) (by omega) (growslice_fits (by omega) hbytes)
        have hgr := grown cap (by omega) (Value.ownBlock (.slice (some ⟨g, 0, none⟩) n cap))
        exact ⟨_, _, hr, hgr.1, hgr.2.1, hgr.2.2, fun b hb => .inr (by rw [show w.heap.size = b from Option.some.inj hb]; exact Nat.le_refl _), kept_alloc _ _ _ _ _⟩
end Go.Proofs.Yticnmmfiadpbbaa.Sc
namespace Go.Proofs.Yticnmmfiadpbbaa.Any
open Go Go.RowKit
variable {P : Program} {ops : Array Oper} {Q : Exit → Act → World → Prop}
theorem wpl_catz {te e : TypeId} {i : TypeInfo} {z : Value} {size bytes base : Nat} {n m : Nat} {xs news : List Value} {dst : Option Tmp} {x y : Operand} {t : TypeId} {pos : String} {after : Array Edge} {gd : Option (Nat × Bool)} {vx vy : Value} {a : Act} {w : World} {rest : List Oper}
    (hw : Region.wanted ⟨dst, .call ⟨.builtin .append, #[x, y], #[te, te]⟩, t, pos, after, gd⟩ (yielded ops a.tmps) = true) (hx : a.eval x = vx) (hy : a.eval y = vy)
    (hu : P.underlying te = some (.slice e)) (hi : P.info? e = some i) (hz : i.zero = some z)
    (hsz : i.size = size) (hby : i.bytes = bytes) (hzs : z.cells.size = size) (hpos : 0 < size) (hown : w.ownsRow base e size vx n xs) (hsp : Sc.Spare w size n vx (fun u => u ∈ z.cells.toList)) (hsrc : Sc.Src w size vy m news)
    (h1 : ∀ u ∈ news, u.oneCell' = true) (h63 : n + m ≤ maxLen) (hb : (n + m) * bytes ≤ 140737488355328) (hbase : base ≤ w.heap.size)
    (h : ∀ v' w', w'.ownsRow base e size v' (n + m) (xs ++ news) → Sc.Spare w' size (n + m) v' (fun u => u ∈ z.cells.toList) → w.grownBy w' vx.ownBlock → (∀ b, v'.ownBlock = some b → vx.ownBlock = some b ∨ w.heap.size ≤ b) → Sc.Kept w w' size n vx → wpList P ops Q rest (a.put dst v') w') :
    wpList P ops Q (⟨dst, .call ⟨.builtin .append, #[x, y], #[te, te]⟩, t, pos, after, gd⟩ :: rest) a w := by
  subst hx hy
  refine wpl hw ?_
  obtain ⟨v', w', hr, h2, h3, h4, h5, h6⟩ := Sc.run_append_z (P := P) w base te t e i z size bytes hu hi hz hsz hby hzs hpos _ _ n m xs news hown hsp hsrc h1 h63 hb hbase
  unfold OpOk
  simp [execOp, resolve, invoke, builtin, hr, Result.andThen]
  exact h v' w' h2 h3 h4 h5 h6
end Go.Proofs.Yticnmmfiadpbbaa.Any
