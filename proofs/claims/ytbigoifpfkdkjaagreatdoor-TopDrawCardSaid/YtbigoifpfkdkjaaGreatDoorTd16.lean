/- Rows of texts. slices.Index and slices.Contains of texts. New of the program; May of the reference. -/
import Derived.Test.YtbigoifpfkdkjaaGreatDoorTd08
import Derived.Test.YtbigoifpfkdkjaaGreatDoorTd11
import Derived.Test.YtbigoifpfkdkjaaGreatDoorTd15
namespace Go.Proofs.YtbigoifpfkdkjaaGreatDoor.Sc
open Go Go.RowKit Go.ChangeShapes Go.WideShapes Go.ChangeAt
set_option maxRecDepth 100000

theorem infoStr : (Tryz.prog.info? 9).map (fun i => (i.zero, i.size, i.bytes)) = some (some (.string ⟨#[]⟩), 1, 16) := by kernel_rfl
def stRow (s : ByteArray) : List Value := [.string s]
def strCells (l : List ByteArray) : List Value := l.map Value.string
theorem strCells_flat (l : List ByteArray) : strCells l = (l.map stRow).flatten := by
  induction l with
  | nil => rfl
  | cons a r ih => simp only [strCells, List.map_cons, List.flatten_cons, stRow, List.singleton_append] at *; rw [ih]
theorem st_rows (l : List ByteArray) : ∀ r ∈ l.map stRow, r.length = 1 := by
  intro r hr
  obtain ⟨d, _, rfl⟩ := List.mem_map.1 hr
  rfl
theorem own_strs {w : World} {B n : Nat} {v : Value} {l : List ByteArray} (h : w.ownsRow B 9 1 v n (strCells l)) (hn : n = l.length) : Sl w 1 v (l.map stRow) := by
  rw [strCells_flat] at h
  exact own_sl h (by simpa using hn) (st_rows l)
theorem str_one (s : ByteArray) : ∀ u ∈ (#[Value.string s] : Array Value).toList, u.oneCell' = true := by
  intro u hu
  simp only [List.mem_singleton] at hu
  subst hu; rfl
theorem sl_strs (w : World) (l : List ByteArray) (n : Nat) (hn : l.length = n) (hm : n ≤ maxLen) : Sl (w.alloc (.cells (l.map Value.string).toArray 9)) 1 (.slice (some ⟨w.heap.size, 0, none⟩) n n) (l.map stRow) := by
  subst hn
  refine .inr ⟨w.heap.size, 0, l.length, by simp, by simp, by simp, hm, fun i r hr j u hu => ?_⟩
  rw [cell_new]
  simp only [List.getElem?_map, Option.map_eq_some_iff] at hr
  obtain ⟨s, hs, rfl⟩ := hr
  cases j with
  | zero =>
    obtain rfl : Value.string s = u := by simpa [stRow] using hu
    simp [hs]
  | succ j => simp [stRow] at hu
theorem Sl.take {w : World} {sz : Nat} {a : Option Addr} {n c m : Nat} {xs : List (List Value)} (h : Sl w sz (.slice a n c) xs) (hm : m ≤ xs.length) : m ≤ c ∧ Sl w sz (.slice a m c) (xs.take m) := by
  rcases h with ⟨rfl, a', c', hv, hn⟩ | ⟨b, off, cap, hv, hb, h1, h2, hc⟩
  · simp only [Value.slice.injEq] at hv
    obtain ⟨rfl, rfl, rfl⟩ := hv
    obtain rfl : m = 0 := by simpa using hm
    exact ⟨Nat.zero_le _, .inl ⟨by simp, _, _, rfl, hn⟩⟩
  · simp only [Value.slice.injEq] at hv
    obtain ⟨rfl, rfl, rfl⟩ := hv
    refine ⟨by omega, ?_⟩
    refine .inr ⟨b, off, c, by simp [Nat.min_eq_left hm], hb, by simp; omega, h2, fun i r hr j u hu => hc i r ?_ j u hu⟩
    rw [List.getElem?_take] at hr
    split at hr
    · exact hr
    · cases hr
theorem st_cell {w : World} {b off : Nat} {xs : List (List Value)} {l : List ByteArray} (hx : xs = l.map stRow) (hc : ∀ (i : Nat) (r : List Value), xs[i]? = some r → ∀ (j : Nat) (u : Value), r[j]? = some u → w.cell? ⟨b, off + i * 1 + j, none⟩ = some u) {k : Nat} {s : ByteArray} (h : l[k]? = some s) : w.cell? ⟨b, off + k, none⟩ = some (.string s) := by
  have := hc k (stRow s) (by rw [hx]; simp [h]) 0 _ rfl
  rw [Nat.mul_one] at this
  exact this

end Go.Proofs.YtbigoifpfkdkjaaGreatDoor.Sc
namespace Go.Proofs.YtbigoifpfkdkjaaGreatDoor.Sc
open Go Go.RowKit Go.ChangeShapes Go.WideShapes Go.ChangeAt
set_option maxRecDepth 100000

def idxS (s : ByteArray) : List ByteArray → Int → Int
  | [], _ => -1
  | x :: r, k => if s = x then k else idxS s r (k + 1)
theorem idxS_iff (s : ByteArray) (l : List ByteArray) : ∀ k, 0 ≤ k → (0 ≤ idxS s l k ↔ s ∈ l) := by
  induction l with
  | nil => intro k _; simp [idxS]
  | cons x r ih =>
    intro k hk
    simp only [idxS, List.mem_cons]
    by_cases h : s = x
    · simp [h, hk]
    · rw [if_neg h, ih (k + 1) (by omega)]; simp [h]
set_option maxHeartbeats 1000000 in
theorem index_any (l : List ByteArray) (s : ByteArray) (v : Value) (w : World) (hs : Sl w 1 v (l.map stRow)) : Calls Tryz.prog 103 #[v, .string s] w (Ret w (.int .i64 (idxS s l 0))) := by
  have hml : l.length ≤ 9223372036854775807 := by have := hs.len_le; simpa [maxLen] using this
  obtain ⟨a, c, rfl⟩ : ∃ a c, v = .slice a l.length c := by simpa using hs.shape
  have HSL := Lib.hid hs
  clear hs
  go_enter Tryz.func103, Tryz.ntmps103
  go_wp2
  go_loop [5, 8] (fun _ i => ∃ k : Nat, k ≤ l.length ∧ i = .int .i64 k ∧ idxS s l 0 = idxS s (l.drop k) k) (fun _ i => l.length - (intOf i).toNat)
  case atStart => exact ⟨0, Nat.zero_le _, rfl, rfl⟩
  case round =>
    obtain ⟨k, hk, rfl, hrel⟩ := hrel
    by_cases hlt : k < l.length
    · obtain ⟨b, off, rfl, -, hb, hc⟩ := HSL.out.at (i := k) (by simpa using hlt)
      have d0 : w.cell? ⟨b, off + k, none⟩ = some (.string l[k]) := st_cell rfl hc (by simp [hlt])
      rw [List.drop_eq_getElem_cons hlt, idxS] at hrel
      have HR := Lib.hid hrel
      clear hrel hc
      generalize l[k] = x at *
      by_cases heq : s = x
      · have t1 := str_yes heq
        have HEQ := Lib.hid heq
        clear heq
        go_wp2
        go_ret
        exact ⟨ret_int (by rw [HR.out, if_pos HEQ.out]), Below.refl _ _⟩
      · have t1 := str_no heq
        have HEQ := Lib.hid heq
        clear heq
        go_wp2
        go_round
        case rel => exact ⟨k + 1, by omega, by go_num, by rw [HR.out, if_neg HEQ.out]; simp⟩
        case measure => simp [intOf]; omega
    · have HR := Lib.hid hrel
      clear hrel
      go_wp2
      go_ret
      exact ⟨ret_int (by rw [HR.out, List.drop_eq_nil_of_le (by omega)]; rfl), Below.refl _ _⟩
def inS (s : ByteArray) (l : List ByteArray) : Bool := l.any fun x => decide (s = x)
theorem inS_iff (s : ByteArray) (l : List ByteArray) : inS s l = true ↔ s ∈ l := by simp [inS]
theorem contains_any (l : List ByteArray) (s : ByteArray) (v : Value) (w : World) (hs : Sl w 1 v (l.map stRow)) : Calls Tryz.prog 42 #[v, .string s] w (RetB w (inS s l)) := by
  have H := Lib.hid (index_any l s v w hs)
  have HI : Hid (decide (0 ≤ idxS s l 0) = inS s l) := Lib.hid (by rw [Bool.eq_iff_iff, decide_eq_true_iff, inS_iff]; exact idxS_iff s l 0 (Int.le_refl _))
  clear hs
  generalize idxS s l 0 = n at *
  go_enter Tryz.func42, Tryz.ntmps42
  go_wp2_with (first | ((with_reducible refine H.out.mono ?_); rintro e w1 ⟨rfl, hb1⟩) | fail)
  go_ret
  exact retB (by rw [← HI.out]) hb1
end Go.Proofs.YtbigoifpfkdkjaaGreatDoor.Sc
namespace Go.Proofs.YtbigoifpfkdkjaaGreatDoor.Sc
open Go Go.RowKit Go.ChangeShapes Go.WideShapes Go.ChangeAt
set_option maxRecDepth 100000

/-- May a credit live? -/
def Cr.lives (c : Cr) : Bool := c.bnd && ((nameOk c.s3 && (nameOk c.s1 && nameOk c.s2)) && ((!decide (c.s1 = c.s3) && (!decide (c.s2 = c.s3) && !decide (c.s2 = c.s1))) && (c.s4.toList.isEmpty || (nameOk c.s4 && (!decide (c.s4 = c.s3) && (!decide (c.s4 = c.s1) && !decide (c.s4 = c.s2)))))))
def Cr.names (c : Cr) : List ByteArray := [c.s3, c.s1, c.s2] ++ if c.s4.toList.isEmpty then [] else [c.s4]
/-- Each a name, each once, from number k on. -/
def namesFrom (l : List ByteArray) : Nat → Nat → Bool
  | _, 0 => true
  | k, n + 1 => match l[k]? with | some s => nameOk s && !inS s (l.take k) && namesFrom l (k + 1) n | none => true
theorem lives_names (c : Cr) : c.lives = (c.bnd && namesFrom c.names 0 c.names.length) := by
  unfold Cr.lives Cr.names
  cases he : c.s4.toList.isEmpty
  · simp only [if_neg, Bool.false_eq_true, List.length_append, List.length_cons, List.length_nil, not_false_eq_true]
    simp [namesFrom, inS]
    cases c.bnd <;> cases nameOk c.s3 <;> cases nameOk c.s1 <;> cases nameOk c.s2 <;> cases nameOk c.s4 <;> simp
    all_goals (by_cases h1 : c.s1 = c.s3 <;> by_cases h2 : c.s2 = c.s3 <;> by_cases h3 : c.s2 = c.s1 <;> simp [h1, h2, h3] <;> try simp_all)
  · simp only [if_pos, List.append_nil, List.length_cons, List.length_nil]
    simp [namesFrom, inS]
    cases c.bnd <;> cases nameOk c.s3 <;> cases nameOk c.s1 <;> cases nameOk c.s2 <;> simp
    all_goals (by_cases h1 : c.s1 = c.s3 <;> by_cases h2 : c.s2 = c.s3 <;> by_cases h3 : c.s2 = c.s1 <;> simp [h1, h2, h3] <;> try simp_all)
def Cr.bare (c : Cr) : Cr := { c with na := none, nl := 0, nc := 0 }
def Lf.new (c : Cr) : Lf := ⟨c.bare, 0, false, false, ⟨0, 0⟩, [], []⟩
/-- What New answers. -/
def Newed (w : World) (c : Cr) (e : Ending) (w' : World) : Prop :=
  Below w.heap.size w w' ∧ ((c.lives = false ∧ e = .returned (.tuple #[.pointer none, .int .i64 1])) ∨
  (c.lives = true ∧ ∃ b F, e = .returned (.tuple #[.pointer (some ⟨b, 0, none⟩), .int .i64 0]) ∧ Lv w' 116 F b (Lf.new c) ∧ ∀ k, F k → w.heap.size ≤ k))
theorem below_four (w1 : World) (a b c d : ByteArray) (zs : Array Value) : Below w1.heap.size w1 (((w1.alloc (.cells #[.string a, .string b, .string c] 9)).alloc (.cells #[.string d] 9)).alloc (.cells (#[.string a, .string b, .string c, .string d] ++ zs) 9)).drew :=
  ((((Below.refl _ _).alloc (Nat.le_refl _) _).alloc (by simp) _).alloc (by simp; omega) _).drew
theorem sl_four (w1 : World) (a b c d : ByteArray) (cN : Nat) (zs : Array Value) (h4 : 4 ≤ cN) (hm : cN ≤ maxLen) :
    Sl (((w1.alloc (.cells #[.string a, .string b, .string c] 9)).alloc (.cells #[.string d] 9)).alloc (.cells (#[.string a, .string b, .string c, .string d] ++ zs) 9)).drew 1 (.slice (some ⟨w1.heap.size + 1 + 1, 0, none⟩) 4 cN) ([a, b, c, d].map stRow) := by
  refine .inr ⟨_, 0, cN, rfl, by simp, h4, hm, fun i r hr j u hu => ?_⟩
  have hcell : ∀ o, (((w1.alloc (.cells #[.string a, .string b, .string c] 9)).alloc (.cells #[.string d] 9)).alloc (.cells (#[.string a, .string b, .string c, .string d] ++ zs) 9)).drew.cell? ⟨w1.heap.size + 1 + 1, o, none⟩ = (#[Value.string a, .string b, .string c, .string d] ++ zs)[o]? := fun o => by
    have hz : ((w1.alloc (.cells #[.string a, .string b, .string c] 9)).alloc (.cells #[.string d] 9)).heap.size = w1.heap.size + 1 + 1 := by simp
    have := cell_new ((w1.alloc (.cells #[.string a, .string b, .string c] 9)).alloc (.cells #[.string d] 9)) (#[Value.string a, .string b, .string c, .string d] ++ zs) 9 o
    rw [hz] at this
    exact this
  rw [hcell]
  match i, hr with
  | 0, hr => obtain rfl : stRow a = r := by simpa using hr
             match j, hu with
             | 0, hu => obtain rfl : Value.string a = u := by simpa [stRow] using hu
                        simp [Array.getElem?_append]
             | j + 1, hu => simp [stRow] at hu
  | 1, hr => obtain rfl : stRow b = r := by simpa using hr
             match j, hu with
             | 0, hu => obtain rfl : Value.string b = u := by simpa [stRow] using hu
                        simp [Array.getElem?_append]
             | j + 1, hu => simp [stRow] at hu
  | 2, hr => obtain rfl : stRow c = r := by simpa using hr
             match j, hu with
             | 0, hu => obtain rfl : Value.string c = u := by simpa [stRow] using hu
                        simp [Array.getElem?_append]
             | j + 1, hu => simp [stRow] at hu
  | 3, hr => obtain rfl : stRow d = r := by simpa using hr
             match j, hu with
             | 0, hu => obtain rfl : Value.string d = u := by simpa [stRow] using hu
                        simp [Array.getElem?_append]
             | j + 1, hu => simp [stRow] at hu
  | i + 4, hr => simp at hr
theorem newed_no {w w' : World} {c : Cr} (h : c.lives = false) (hb : Below w.heap.size w w') : Newed w c (.returned (.tuple #[.pointer none, .int .i64 1])) w' := ⟨hb, .inl ⟨h, rfl⟩⟩
theorem new_cells (c : Cr) : Array.foldl (fun (cs : Array Value) (x : Value × Nat) => cs.setIfInBounds x.snd x.fst)
    #[.string ⟨#[]⟩, .string ⟨#[]⟩, .string ⟨#[]⟩, .string ⟨#[]⟩, .string ⟨#[]⟩, .string ⟨#[]⟩, .string ⟨#[]⟩, .string ⟨#[]⟩, .int .i64 0, .int .i64 0, .int .i64 0, .int .i64 0, .int .i64 0, .int .i64 0, .int .i64 0, .bool false, .bool false, .slice none 0 0,
      .int .i64 0, .bool false, .bool false, .int .i64 0, .int .i64 0, .slice none 0 0, .slice none 0 0] (c.bare.cells.zipIdx 0) 0 18 = (Lf.new c).cells (.slice none 0 0) (.slice none 0 0) := by kernel_rfl
theorem newed_yes {w W : World} {c : Cr} {b : Nat} {cs : Array Value} (h : c.lives = true) (hb : Below w.heap.size w W) (hz : b = W.heap.size) (hcs : cs = (Lf.new c).cells (.slice none 0 0) (.slice none 0 0)) :
    Newed w c (.returned (.tuple #[.pointer (some ⟨b, 0, none⟩), .int .i64 0])) (W.alloc (.cells cs 116)) := by
  subst hz hcs
  refine ⟨hb.alloc hb.size _, .inr ⟨h, W.heap.size, fun k => k = W.heap.size, rfl, ⟨.slice none 0 0, .slice none 0 0, heap_alloc_new _ _, World.ownsRow_nil _ _ _ _, World.ownsRow_nil _ _ _ _, (fun g hg => by cases hg), (fun g hg => by cases hg), rfl, fun k hk => by subst hk; simp⟩, fun k hk => by subst hk; exact hb.size⟩⟩
theorem most_no (c : Cr) (h : c.bnd = false) (w : World) : Calls Tryz.prog 7 #[.agg c.cells] w (Ret w (.tuple #[.int .i64 0, .int .i64 1])) := (Most_any c w).mono fun e w' h' => by simpa [RetM, h] using h'
theorem most_yes (c : Cr) (h : c.bnd = true) (w : World) : Calls Tryz.prog 7 #[.agg c.cells] w (Ret w (.tuple #[.int .i64 c.most, .int .i64 0])) := (Most_any c w).mono fun e w' h' => by simpa [RetM, h] using h'

set_option maxHeartbeats 4000000 in
theorem new_any (c : Cr) (w : World) : Calls Tryz.prog 8 #[.agg c.cells] w (Newed w c) := by
  have HC : Hid ((w.alloc (.cells c.cells 30)).heap[w.heap.size]? = some (.cells c.cells 30 (0, 0))) := Lib.hid (heap_alloc_new _ _)
  have HL := Lib.hid (lives_names c)
  cases hbn : c.bnd
  · have M := Lib.hid (fun w => most_no c hbn w)
    rw [hbn] at HL
    clear hbn
    go_enter Tryz.func8, Tryz.ntmps8
    go_wp2_with (first | (refine load_cr (.tmp 1) w.heap.size c _ rfl rfl HC.out ?_) | ((with_reducible refine (M.out _).mono ?_); rintro e w1 ⟨rfl, hb1⟩; have HB1 := Lib.hid (below_new hb1); clear hb1) | fail)
    go_ret2
    exact newed_no (by rw [HL.out]; rfl) HB1.out
  have M := Lib.hid (fun w => most_yes c hbn w)
  rw [hbn] at HL
  clear hbn
  generalize c.most = mst at *
  obtain ⟨i0, hi, hz, hsz, hby⟩ := info_parts infoStr
  have HI := Lib.hid (And.intro hi (And.intro hz (And.intro hsz hby)))
  clear hi hz hsz hby
  obtain ⟨L, hL⟩ : ∃ L, L = c.names := ⟨_, rfl⟩
  rw [← hL] at HL
  cases he : c.s4.toList.isEmpty
  · have hL4 : L = [c.s3, c.s1, c.s2] ++ [c.s4] := by rw [hL, Cr.names, if_neg (by simp [he])]
    have HNL : Hid (4 = L.length) := Lib.hid (by rw [hL4]; rfl)
    have HLV : Hid (c.lives = namesFrom L 0 4) := Lib.hid (by rw [HL.out, hL4]; rfl)
    have HL4 := Lib.hid hL4
    have HP : Hid (3 + 1 ≤ maxLen ∧ (3 + 1) * 16 ≤ 140737488355328 ∧ 0 ≤ 0) := Lib.hid (by simp [maxLen])
    clear hL4 hL
    go_enter Tryz.func8, Tryz.ntmps8
    go_wp2_with (first
      | (refine load_cr (.tmp 1) w.heap.size c _ rfl rfl HC.out ?_)
      | ((with_reducible refine (M.out _).mono ?_); rintro e w1 ⟨rfl, hb1⟩; have HB1 := Lib.hid (below_new hb1); have HC1 := Lib.hid (blk hb1 (lt_blk HC.out) HC.out); clear hb1; have d1 : w1.cell? ⟨w.heap.size, 1, none⟩ = some (.string c.s1) := cell_blk HC1.out 1; have d2 : w1.cell? ⟨w.heap.size, 2, none⟩ = some (.string c.s2) := cell_blk HC1.out 2; have d3 : w1.cell? ⟨w.heap.size, 3, none⟩ = some (.string c.s3) := cell_blk HC1.out 3; have d4 : w1.cell? ⟨w.heap.size, 4, none⟩ = some (.string c.s4) := cell_blk HC1.out 4; have hz : w.heap.size < w1.heap.size := lt_blk HC1.out)
      | fail)
    have h4 := grownCap_ge w1 4 3 9
    have hm := grownCap_le_maxLen w1 4 3 9 (by simp [maxLen])
    unfold grownCap at h4 hm
    generalize (Question.appendCap 4 3 9).cut (w1.tape w1.drawn (Question.appendCap 4 3 9)) = cN at *
    have HSN := Lib.hid (by have := sl_four w1 c.s3 c.s1 c.s2 c.s4 cN (Builtin.zeroCells #[Value.string ⟨#[]⟩] (cN - 4)) h4 hm; rw [show [c.s3, c.s1, c.s2, c.s4] = L from HL4.out.symm] at this; exact this)
    have HGB := Lib.hid (below_four w1 c.s3 c.s1 c.s2 c.s4 (Builtin.zeroCells #[Value.string ⟨#[]⟩] (cN - 4)))
    have HCN := Lib.hid (blk HGB.out (lt_blk HC1.out) HC1.out)
    have HBN := Lib.hid (HB1.out.trans (HGB.out.mono HB1.out.size))
    generalize hwn : (((w1.alloc (.cells #[.string c.s3, .string c.s1, .string c.s2] 9)).alloc (.cells #[.string c.s4] 9)).alloc (.cells (#[.string c.s3, .string c.s1, .string c.s2, .string c.s4] ++ Builtin.zeroCells #[Value.string ⟨#[]⟩] (cN - 4)) 9)).drew = wn at *
    generalize had : (some (⟨w1.heap.size + 1 + 1, 0, none⟩ : Addr)) = ad at *
    clear had hwn d1 d2 d3 d4 hz he h4 hm
    go_loopw [7, 8, 33] (fun _ _ i wr => ∃ k : Nat, k ≤ 4 ∧ i = .int .i64 k ∧ namesFrom L 0 4 = namesFrom L k (4 - k) ∧ Below wn.heap.size wn wr) (fun _ _ i _ => 4 - (intOf i).toNat)
    case atStart => exact ⟨0, Nat.zero_le _, rfl, rfl, Below.refl _ _⟩
    case round =>
      obtain ⟨k, hk, rfl, hrel, hbel⟩ := hrel
      have HBEL := Lib.hid hbel
      by_cases hlt : k < 4
      · obtain ⟨b, off, rfl, -, hb, hc⟩ := HSN.out.at (i := k) (by have := HNL.out; simp; omega)
        have hkl : k < L.length := by have := HNL.out; omega
        have d0 : wr.cell? ⟨b, off + k, none⟩ = some (.string L[k]) := (hbel.cell (p := ⟨b, off + k, none⟩) hb).trans (st_cell rfl hc (by simp [hkl]))
        have HR : Hid (namesFrom L 0 4 = (nameOk L[k] && !inS L[k] (L.take k) && namesFrom L (k + 1) (4 - (k + 1)))) := Lib.hid (by
          rw [hrel, show 4 - k = (4 - (k + 1)) + 1 from by omega, namesFrom]
          simp [hkl])
        obtain ⟨hcap, hst⟩ := HSN.out.take (m := k) (by have := HNL.out; simp; omega)
        rw [← List.map_take] at hst
        have q44 : ∀ W : World, (Instr.slice 55 (.slice (some ⟨b, off, none⟩) 4 cN) none (some (.int .i64 (k : Int))) none).run Tryz.prog W = .ok (.slice (some ⟨b, off, none⟩) k cN) W := fun W => by
          obtain ⟨i0, hi, _⟩ := info_parts infoStr
          exact Any.run_slice_to Tryz.underlying55 hi _ 4 cN k hcap
        have HST := Lib.hid hst
        have hltn : (k : Int) < (4 : Int) := by omega
        clear hrel hc hst hcap hbel
        generalize L[k] = s at *
        have HN := Lib.hid (fun W => markName_any s W)
        have HCO := Lib.hid (fun (W : World) (v : Value) (h : Sl W 1 v ((L.take k).map stRow)) => contains_any (L.take k) s v W h)
        cases hno : nameOk s
        · rw [hno] at HN HR
          clear hno
          go_wp2_with (first | ((with_reducible refine (HN.out _).mono ?_); rintro e w2 ⟨rfl, hb2⟩; have HB2 := Lib.hid (HBEL.out.trans (hb2.mono HBEL.out.size)); clear hb2) | fail)
          go_ret2
          exact newed_no (by rw [HLV.out, HR.out]; simp) (HBN.out.trans (HB2.out.mono HBN.out.size))
        · rw [hno] at HN HR
          clear hno
          cases hin : inS s (L.take k)
          · rw [hin] at HR HCO
            clear hin
            go_wp2_with (first | ((with_reducible refine (HN.out _).mono ?_); rintro e w2 ⟨rfl, hb2⟩; have HB2 := Lib.hid (HBEL.out.trans (hb2.mono HBEL.out.size)); have HST2 := Lib.hid (HST.out.below HB2.out (Nat.le_refl _)); clear hb2) | ((with_reducible refine (HCO.out _ _ HST2.out).mono ?_); rintro e w3 ⟨rfl, hb3⟩; have HB3 := Lib.hid (HB2.out.trans (hb3.mono HB2.out.size)); clear hb3) | fail)
            go_roundw
            case rel => exact ⟨k + 1, by omega, by go_num, by rw [HR.out]; simp, HB3.out⟩
            case measure => simp [intOf]; omega
          · rw [hin] at HR HCO
            clear hin
            go_wp2_with (first | ((with_reducible refine (HN.out _).mono ?_); rintro e w2 ⟨rfl, hb2⟩; have HB2 := Lib.hid (HBEL.out.trans (hb2.mono HBEL.out.size)); have HST2 := Lib.hid (HST.out.below HB2.out (Nat.le_refl _)); clear hb2) | ((with_reducible refine (HCO.out _ _ HST2.out).mono ?_); rintro e w3 ⟨rfl, hb3⟩; have HB3 := Lib.hid (HB2.out.trans (hb3.mono HB2.out.size)); clear hb3) | fail)
            go_ret2
            exact newed_no (by rw [HLV.out, HR.out]; simp) (HBN.out.trans (HB3.out.mono HBN.out.size))
      · have hkn : k = 4 := by omega
        have HLT : Hid (namesFrom L 0 4 = true) := Lib.hid (by rw [hrel, show 4 - k = 0 from by omega]; cases L <;> rfl)
        have HCR := Lib.hid (blk HBEL.out (lt_blk HCN.out) HCN.out)
        have d17 : wr.cell? ⟨w.heap.size, 17, none⟩ = some (.slice c.na c.nl c.nc) := cell_blk HCR.out 17
        have f17 : wr.frozen? ⟨w.heap.size, 17, none⟩ = false := free_blk HCR.out 17
        have HBARE : Hid ((wr.setCell ⟨w.heap.size, 17, none⟩ (.slice none 0 0)).heap[w.heap.size]? = some (.cells c.bare.cells 30 (0, 0))) := Lib.hid (Box.set_raw HCR.out 17 (.slice none 0 0))
        clear hrel hbel
        go_wp2_with (first | (refine load_cr (.tmp 1) w.heap.size c.bare _ rfl rfl HBARE.out ?_) | fail)
        go_ret2
        exact newed_yes (by rw [HLV.out, HLT.out]) ((HBN.out.trans (HBEL.out.mono HBN.out.size)).setCell (Nat.le_refl _) _) (by simp [World.setCell]) (new_cells c)
  · have hL3 : L = [c.s3, c.s1, c.s2] := by rw [hL, Cr.names, if_pos he]; rfl
    have HNL : Hid (3 = L.length) := Lib.hid (by rw [hL3]; rfl)
    have HLV : Hid (c.lives = namesFrom L 0 3) := Lib.hid (by rw [HL.out, hL3]; rfl)
    have HL3 := Lib.hid hL3
    clear hL3 hL
    go_enter Tryz.func8, Tryz.ntmps8
    go_wp2_with (first | (refine load_cr (.tmp 1) w.heap.size c _ rfl rfl HC.out ?_) | ((with_reducible refine (M.out _).mono ?_); rintro e w1 ⟨rfl, hb1⟩; have HB1 := Lib.hid (below_new hb1); have HC1 := Lib.hid (blk hb1 (lt_blk HC.out) HC.out); clear hb1; have d1 : w1.cell? ⟨w.heap.size, 1, none⟩ = some (.string c.s1) := cell_blk HC1.out 1; have d2 : w1.cell? ⟨w.heap.size, 2, none⟩ = some (.string c.s2) := cell_blk HC1.out 2; have d3 : w1.cell? ⟨w.heap.size, 3, none⟩ = some (.string c.s3) := cell_blk HC1.out 3; have d4 : w1.cell? ⟨w.heap.size, 4, none⟩ = some (.string c.s4) := cell_blk HC1.out 4; have hz : w.heap.size < w1.heap.size := lt_blk HC1.out) | fail)
    have HSN : Hid (Sl (w1.alloc (.cells #[.string c.s3, .string c.s1, .string c.s2] 9)) 1 (.slice (some ⟨w1.heap.size, 0, none⟩) 3 3) (L.map stRow)) := Lib.hid (by rw [HL3.out]; exact sl_strs w1 [c.s3, c.s1, c.s2] 3 rfl (by simp [maxLen]))
    have HCN := Lib.hid (blk (one_below w1 (.cells #[.string c.s3, .string c.s1, .string c.s2] 9)) (lt_blk HC1.out) HC1.out)
    have HBN := Lib.hid (HB1.out.trans ((one_below w1 (.cells #[.string c.s3, .string c.s1, .string c.s2] 9)).mono HB1.out.size))
    generalize hwn : w1.alloc (.cells #[.string c.s3, .string c.s1, .string c.s2] 9) = wn at *
    generalize had : (some (⟨w1.heap.size, 0, none⟩ : Addr)) = ad at *
    clear had hwn d1 d2 d3 d4 hz he
    go_loopw [7, 8, 33] (fun _ _ i wr => ∃ k : Nat, k ≤ 3 ∧ i = .int .i64 k ∧ namesFrom L 0 3 = namesFrom L k (3 - k) ∧ Below wn.heap.size wn wr) (fun _ _ i _ => 3 - (intOf i).toNat)
    case atStart => exact ⟨0, Nat.zero_le _, rfl, rfl, Below.refl _ _⟩
    case round =>
      obtain ⟨k, hk, rfl, hrel, hbel⟩ := hrel
      have HBEL := Lib.hid hbel
      by_cases hlt : k < 3
      · obtain ⟨b, off, rfl, -, hb, hc⟩ := HSN.out.at (i := k) (by have := HNL.out; simp; omega)
        have hkl : k < L.length := by have := HNL.out; omega
        have d0 : wr.cell? ⟨b, off + k, none⟩ = some (.string L[k]) := (hbel.cell (p := ⟨b, off + k, none⟩) hb).trans (st_cell rfl hc (by simp [hkl]))
        have HR : Hid (namesFrom L 0 3 = (nameOk L[k] && !inS L[k] (L.take k) && namesFrom L (k + 1) (3 - (k + 1)))) := Lib.hid (by
          rw [hrel, show 3 - k = (3 - (k + 1)) + 1 from by omega, namesFrom]
          simp [hkl])
        obtain ⟨hcap, hst⟩ := HSN.out.take (m := k) (by have := HNL.out; simp; omega)
        rw [← List.map_take] at hst
        have q44 : ∀ W : World, (Instr.slice 55 (.slice (some ⟨b, off, none⟩) 3 3) none (some (.int .i64 (k : Int))) none).run Tryz.prog W = .ok (.slice (some ⟨b, off, none⟩) k 3) W := fun W => by
          obtain ⟨i0, hi, _⟩ := info_parts infoStr
          exact Any.run_slice_to Tryz.underlying55 hi _ 3 3 k hcap
        have HST := Lib.hid hst
        have hltn : (k : Int) < (3 : Int) := by omega
        clear hrel hc hst hcap hbel
        generalize L[k] = s at *
        have HN := Lib.hid (fun W => markName_any s W)
        have HCO := Lib.hid (fun (W : World) (v : Value) (h : Sl W 1 v ((L.take k).map stRow)) => contains_any (L.take k) s v W h)
        cases hno : nameOk s
        · rw [hno] at HN HR
          clear hno
          go_wp2_with (first | ((with_reducible refine (HN.out _).mono ?_); rintro e w2 ⟨rfl, hb2⟩; have HB2 := Lib.hid (HBEL.out.trans (hb2.mono HBEL.out.size)); clear hb2) | fail)
          go_ret2
          exact newed_no (by rw [HLV.out, HR.out]; simp) (HBN.out.trans (HB2.out.mono HBN.out.size))
        · rw [hno] at HN HR
          clear hno
          cases hin : inS s (L.take k)
          · rw [hin] at HR HCO
            clear hin
            go_wp2_with (first | ((with_reducible refine (HN.out _).mono ?_); rintro e w2 ⟨rfl, hb2⟩; have HB2 := Lib.hid (HBEL.out.trans (hb2.mono HBEL.out.size)); have HST2 := Lib.hid (HST.out.below HB2.out (Nat.le_refl _)); clear hb2) | ((with_reducible refine (HCO.out _ _ HST2.out).mono ?_); rintro e w3 ⟨rfl, hb3⟩; have HB3 := Lib.hid (HB2.out.trans (hb3.mono HB2.out.size)); clear hb3) | fail)
            go_roundw
            case rel => exact ⟨k + 1, by omega, by go_num, by rw [HR.out]; simp, HB3.out⟩
            case measure => simp [intOf]; omega
          · rw [hin] at HR HCO
            clear hin
            go_wp2_with (first | ((with_reducible refine (HN.out _).mono ?_); rintro e w2 ⟨rfl, hb2⟩; have HB2 := Lib.hid (HBEL.out.trans (hb2.mono HBEL.out.size)); have HST2 := Lib.hid (HST.out.below HB2.out (Nat.le_refl _)); clear hb2) | ((with_reducible refine (HCO.out _ _ HST2.out).mono ?_); rintro e w3 ⟨rfl, hb3⟩; have HB3 := Lib.hid (HB2.out.trans (hb3.mono HB2.out.size)); clear hb3) | fail)
            go_ret2
            exact newed_no (by rw [HLV.out, HR.out]; simp) (HBN.out.trans (HB3.out.mono HBN.out.size))
      · have hkn : k = 3 := by omega
        have HLT : Hid (namesFrom L 0 3 = true) := Lib.hid (by rw [hrel, show 3 - k = 0 from by omega]; cases L <;> rfl)
        have HCR := Lib.hid (blk HBEL.out (lt_blk HCN.out) HCN.out)
        have d17 : wr.cell? ⟨w.heap.size, 17, none⟩ = some (.slice c.na c.nl c.nc) := cell_blk HCR.out 17
        have f17 : wr.frozen? ⟨w.heap.size, 17, none⟩ = false := free_blk HCR.out 17
        have HBARE : Hid ((wr.setCell ⟨w.heap.size, 17, none⟩ (.slice none 0 0)).heap[w.heap.size]? = some (.cells c.bare.cells 30 (0, 0))) := Lib.hid (Box.set_raw HCR.out 17 (.slice none 0 0))
        clear hrel hbel
        go_wp2_with (first | (refine load_cr (.tmp 1) w.heap.size c.bare _ rfl rfl HBARE.out ?_) | fail)
        go_ret2
        exact newed_yes (by rw [HLV.out, HLT.out]) ((HBN.out.trans (HBEL.out.mono HBN.out.size)).setCell (Nat.le_refl _) _) (by simp [World.setCell]) (new_cells c)
end Go.Proofs.YtbigoifpfkdkjaaGreatDoor.Sc
