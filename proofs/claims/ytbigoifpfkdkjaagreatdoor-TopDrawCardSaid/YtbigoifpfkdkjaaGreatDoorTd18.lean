/- Fields of a paper: built out of texts, found by name. -/
import Derived.Test.YtbigoifpfkdkjaaGreatDoorTd17
import Derived.Test.YtbigoifpfkdkjaaGreatDoorTd16
import Derived.Test.YtbigoifpfkdkjaaGreatDoorTd01
import Derived.Deep.CutRange
import Derived.BigQuiet
import Derived.Laws.MakeOwn
import Derived.OwnWalk
import Derived.Shelf.Abstract
namespace Go.Proofs.YtbigoifpfkdkjaaGreatDoor.Sc
open Go Go.RowKit Go.ChangeShapes Go.WideShapes Go.ChangeAt
set_option maxRecDepth 100000

structure Fd where
  name : ByteArray
  val : ByteArray
def Fd.cells (x : Fd) : Array Value := #[.string x.name, .string x.val]
def Fd.row (x : Fd) : List Value := x.cells.toList
def fdCells (l : List Fd) : List Value := l.flatMap Fd.row
theorem infoFd : (Tryz.prog.info? 256).map (fun i => (i.zero, i.size, i.bytes)) = some (some (.agg #[.string ⟨#[]⟩, .string ⟨#[]⟩]), 2, 32) := by kernel_rfl
theorem fd_one (x : Fd) : ∀ u ∈ x.cells.toList, u.oneCell' = true := by
  intro u hu
  simp only [Fd.cells, List.mem_cons, List.not_mem_nil, or_false] at hu
  rcases hu with rfl | rfl <;> rfl
theorem fdCells_flat (l : List Fd) : fdCells l = (l.map Fd.row).flatten := by rw [fdCells, List.flatMap_def]
theorem fd_rows (l : List Fd) : ∀ r ∈ l.map Fd.row, r.length = 2 := by
  intro r hr
  obtain ⟨b, -, rfl⟩ := List.mem_map.1 hr
  rfl
theorem fdCells_append (a b : List Fd) : fdCells (a ++ b) = fdCells a ++ fdCells b := by simp [fdCells]
theorem own_fds {w : World} {B n : Nat} {v : Value} {l : List Fd} (h : w.ownsRow B 256 2 v n (fdCells l)) (hn : n = l.length) : Sl w 2 v (l.map Fd.row) := by
  rw [fdCells_flat] at h
  exact own_sl h (by simpa using hn) (fd_rows l)
theorem src_fds {w : World} {v : Value} {l : List Fd} (h : Sl w 2 v (l.map Fd.row)) : Src w 2 v l.length (fdCells l) := by
  have := h.src (fd_rows l) (by decide)
  rw [fdCells_flat]
  simpa using this
/-- What one in a row reads. -/
def FdAt (w : World) (b o : Nat) (x : Fd) : Prop := w.cell? ⟨b, o, none⟩ = some (.string x.name) ∧ w.cell? ⟨b, o + 1, none⟩ = some (.string x.val)
theorem fd_at {w : World} {a : Option Addr} {n c : Nat} {l : List Fd} (h : Sl w 2 (.slice a n c) (l.map Fd.row)) {k : Nat} (hk : k < l.length) : ∃ b off, a = some ⟨b, off, none⟩ ∧ b < w.heap.size ∧ FdAt w b (off + k * 2) l[k] := by
  obtain ⟨b, off, e, -, hb, hc⟩ := h.at (i := k) (by simpa using hk)
  have hr := hc k l[k].row (by rw [List.getElem?_map, List.getElem?_eq_getElem hk]; rfl)
  exact ⟨b, off, e, hb, hr 0 _ rfl, hr 1 _ rfl⟩
theorem FdAt.below {w w' : World} {b o B : Nat} {x : Fd} (h : FdAt w b o x) (hb : b < B) (hw : Below B w w') : FdAt w' b o x := by
  obtain ⟨h0, h1⟩ := h
  exact ⟨(hw.cell (p := ⟨b, o, none⟩) hb).trans h0, (hw.cell (p := ⟨b, o + 1, none⟩) hb).trans h1⟩
theorem FdAt.keep {F : Nat → Prop} {w w' : World} {b o : Nat} {x : Fd} (h : FdAt w b o x) (hb : b < w.heap.size) (hn : ¬ F b) (hw : Keep F w w') : FdAt w' b o x := by
  obtain ⟨h0, h1⟩ := h
  exact ⟨(hw.cell (o := o) hb hn).trans h0, (hw.cell (o := o + 1) hb hn).trans h1⟩
/-- .. and in a box. -/
theorem fd_box {w : World} {b : Nat} {x : Fd} {T : TypeId} (h : w.heap[b]? = some (.cells x.cells T (0, 0))) : w.cell? ⟨b, 0, none⟩ = some (.string x.name) ∧ w.cell? ⟨b, 1, none⟩ = some (.string x.val) := ⟨cell_blk h 0, cell_blk h 1⟩

theorem go_place1 (args : Array Value) (w : World) : (callFunc 204 args).run Tryz.prog w = .ok (.enter 204 args) w := by kernel_rfl
theorem place1_any (x : Fd) (nm : ByteArray) (b : Nat) (w : World) (hb : w.heap[b]? = some (.cells #[.string nm] 9 (0, 0))) :
    Calls Tryz.prog 204 #[.agg x.cells, .pointer (some ⟨b, 0, none⟩)] w (RetB w (x.name.toList == nm.toList)) := by
  obtain ⟨xn, xv⟩ := x
  have HX := Lib.hid (one_below w (.cells #[.string xn, .string xv] 256))
  have c0 := cell_blk (blk HX.out (lt_blk hb) hb) 0
  simp only [Fd.cells]
  clear hb
  go_enter Tryz.func204, Tryz.ntmps204
  go_wp2
  go_ret
  exact retB rfl HX.out
def IdxF (w : World) (n : Nat) (e : Ending) (w' : World) : Prop := ∃ i : Int, e = .returned (.int .i64 i) ∧ -1 ≤ i ∧ i < n ∧ Below w.heap.size w w'
set_option maxHeartbeats 4000000 in
theorem indexF_any (f : Fd → Bool) (g : Nat) (cb : Array Value) (l : List Fd) (v : Value) (w : World) (hs : Sl w 2 v (l.map Fd.row)) (eg : ∀ args w, (callFunc g args).run Tryz.prog w = .ok (.enter g args) w)
    (hcl : ∀ W (x : Fd), Below w.heap.size w W → Calls Tryz.prog g (#[.agg x.cells] ++ cb) W (RetB W (f x))) :
    Calls Tryz.prog 203 #[v, .func (.func g) #[] cb] w (IdxF w l.length) := by
  obtain ⟨a, c, rfl⟩ : ∃ a c, v = .slice a l.length c := by simpa using hs.shape
  have hll : l.length ≤ 9223372036854775807 := by have := hs.len_le; simp only [List.length_map, maxLen] at this; omega
  have HS := Lib.hid hs
  have HCL := Lib.hid hcl
  clear hs hcl
  go_enter Tryz.func203, Tryz.ntmps203
  go_wp2_with fail
  go_loopw [5, 8] (fun _ i wr => ∃ k : Nat, k ≤ l.length ∧ i = .int .i64 k ∧ Below w.heap.size w wr) (fun _ i _ => l.length - (intOf i).toNat)
  case atStart => exact ⟨0, Nat.zero_le _, rfl, Below.refl _ _⟩
  case round =>
    obtain ⟨k, hk, rfl, hbel⟩ := hrel
    have HBEL := Lib.hid hbel
    by_cases hlt : k < l.length
    · obtain ⟨b, off, rfl, hb, h0, h1⟩ := fd_at HS.out hlt
      have d0 := (hbel.cell (p := ⟨b, off + k * 2, none⟩) hb).trans h0
      have d1 := (hbel.cell (p := ⟨b, off + k * 2 + 1, none⟩) hb).trans h1
      generalize l[k] = x at *
      obtain ⟨xn, xv⟩ := x
      simp only at d0 d1
      have HC := Lib.hid (HCL.out wr ⟨xn, xv⟩ hbel)
      have tk : ((k : Nat) : Int) < (l.length : Int) := by omega
      clear hb h0 h1 hbel
      generalize hr : f ⟨xn, xv⟩ = r at *
      clear hr
      cases r
      · go_wp2_with (first
          | (go_at_fn g; refine HC.out.mono ?_; rintro e w2 ⟨rfl, hb2⟩; have HB2 := Lib.hid (HBEL.out.trans (hb2.mono HBEL.out.size)); clear hb2)
          | fail)
        go_roundw
        case rel => exact ⟨k + 1, by omega, by go_num, HB2.out⟩
        case measure => (simp [intOf]) <;> omega
      · go_wp2_with (first
          | (go_at_fn g; refine HC.out.mono ?_; rintro e w2 ⟨rfl, hb2⟩; have HB2 := Lib.hid (HBEL.out.trans (hb2.mono HBEL.out.size)); clear hb2)
          | fail)
        go_ret
        exact ⟨k, rfl, by omega, by omega, HB2.out⟩
    · clear hbel hk
      go_wp2_with fail
      go_ret
      exact ⟨-1, rfl, by omega, by omega, HBEL.out⟩
set_option maxHeartbeats 1000000 in
theorem place_any (l : List Fd) (nm : ByteArray) (v : Value) (w : World) (hs : Sl w 2 v (l.map Fd.row)) : Calls Tryz.prog 178 #[v, .string nm] w (IdxF w l.length) := by
  have HX := Lib.hid (heap_alloc_new w (.cells #[.string nm] 9))
  have HB := Lib.hid (one_below w (.cells #[.string nm] 9))
  have HI := Lib.hid (indexF_any (fun x => x.name.toList == nm.toList) 204 #[.pointer (some ⟨w.heap.size, 0, none⟩)] l v _ (hs.below HB.out (Nat.le_refl _)) go_place1
    (fun W x hW => place1_any x nm w.heap.size W (blk hW (lt_blk HX.out) HX.out)))
  clear hs
  go_enter Tryz.func178, Tryz.ntmps178
  go_wp2_with (first
    | ((with_reducible refine HI.out.mono ?_); rintro e w2 ⟨i, rfl, h0, h1, hb2⟩; have HB2 := Lib.hid (And.intro (And.intro h0 h1) (HB.out.trans (hb2.mono HB.out.size))); clear h0 h1 hb2)
    | fail)
  go_ret
  exact ⟨i, rfl, HB2.out.1.1, HB2.out.1.2, HB2.out.2⟩
def GotF (w : World) (e : Ending) (w' : World) : Prop := ∃ s b, e = .returned (.tuple #[.string s, .bool b]) ∧ Below w.heap.size w w'
set_option maxHeartbeats 2000000 in
theorem getF_any (l : List Fd) (nm : ByteArray) (v : Value) (w : World) (hs : Sl w 2 v (l.map Fd.row)) : Calls Tryz.prog 154 #[v, .string nm] w (GotF w) := by
  obtain ⟨a, c, rfl⟩ : ∃ a c, v = .slice a l.length c := by simpa using hs.shape
  have HP := Lib.hid (place_any l nm _ w hs)
  have HS := Lib.hid hs
  clear hs
  go_enter Tryz.func154, Tryz.ntmps154
  go_upto_region 2 with (first
    | ((with_reducible refine HP.out.mono ?_); rintro e w2 ⟨i, rfl, h0, h1, hb2⟩; have HB2 := Lib.hid hb2; have H01 := Lib.hid (And.intro h0 h1); clear h0 h1 hb2)
    | fail)
  obtain ⟨h0, h1⟩ := H01.out
  by_cases hi : 0 ≤ i
  · obtain ⟨k, rfl⟩ := Int.eq_ofNat_of_zero_le hi
    have hlt : k < l.length := by omega
    obtain ⟨b, off, rfl, hb, g0, g1⟩ := fd_at HS.out hlt
    have d1 := (HB2.out.cell (p := ⟨b, off + k * 2 + 1, none⟩) hb).trans g1
    generalize l[k].val = x at *
    clear hb g0 g1
    have tk : ((k : Nat) : Int) < (l.length : Int) := by omega
    go_wp2_with fail
    go_ret2
    exact ⟨_, _, rfl, HB2.out⟩
  · have hi' : i = -1 := by omega
    subst hi'
    go_wp2_with fail
    go_ret2
    exact ⟨_, _, rfl, HB2.out⟩
/-- Fields out of names and values, by turns. -/
def fdsN (ss : List ByteArray) (m : Nat) : List Fd := (List.range m).map fun k => ⟨ss.getD (2 * k) ⟨#[]⟩, ss.getD (2 * k + 1) ⟨#[]⟩⟩
theorem fdsN_length (ss : List ByteArray) (m : Nat) : (fdsN ss m).length = m := by simp [fdsN]
theorem fdsN_succ (ss : List ByteArray) (m : Nat) : fdsN ss (m + 1) = fdsN ss m ++ [⟨ss.getD (2 * m) ⟨#[]⟩, ss.getD (2 * m + 1) ⟨#[]⟩⟩] := by simp [fdsN, List.range_succ]
set_option maxHeartbeats 8000000 in
theorem fields_any (m : Nat) (ss : List ByteArray) (v : Value) (w : World) (hs : Sl w 1 v (ss.map stRow)) (hm : ss.length = 2 * m) (h9 : m ≤ 100) : Calls Tryz.prog 155 #[v] w (RetRow w 256 2 m (fdCells (fdsN ss m))) := by
  obtain ⟨N, hN⟩ : ∃ N, N = ss.length := ⟨_, rfl⟩
  obtain ⟨bs0, cs, rfl⟩ : ∃ a c, v = .slice a N c := by rw [hN]; simpa using hs.shape
  obtain ⟨i0, hi, hz, hsz, hby⟩ := info_parts infoFd
  have HI := Lib.hid (And.intro hi (And.intro hz (And.intro hsz hby)))
  obtain ⟨w1, hmk, how1, hg1⟩ := run_make_own (P := Tryz.prog) (w := w) w.heap.size 194 256 i0 _ 2 Tryz.underlying194 hi hz hsz .i64 .i64 m (by rw [hby]; omega) (by simp only [maxLen]; omega) (Nat.le_refl _)
  have HO1 := Lib.hid how1
  have HB1 := Lib.hid ((Below.refl w.heap.size w).grown hg1 (Nat.le_refl _) (fun b hb => by cases hb))
  have HS := Lib.hid hs
  have HN := Lib.hid hN
  have HM := Lib.hid hm
  have hN2 : (N : Int) = 2 * (m : Int) := by omega
  have hq : IntKind.i64.wrap (Int.tdiv (N : Int) 2) = (m : Int) := by rw [hN2, Int.mul_tdiv_cancel_left _ (by decide)]; exact IntWalk.i64_in _ (by omega)
  have HNM : Hid ((N : Int) = 2 * (m : Int)) := Lib.hid hN2
  clear hs hN hm hi hz hsz hby how1 hg1
  go_enter Tryz.func155, Tryz.ntmps155
  go_wp2_with fail
  generalize Value.slice (some ⟨w.heap.size, 0, none⟩) 0 m = u1 at *
  clear hmk hq hN2
  go_loopw [3, 4] (fun uv iv wr => ∃ (k : Nat) (L : List Fd), k ≤ m ∧ iv = .int .i64 (2 * (k : Int)) ∧ L = fdsN ss k ∧ wr.ownsRow w.heap.size 256 2 uv L.length (fdCells L) ∧ Below w.heap.size w wr) (fun _ iv _ => 2 * m - (intOf iv).toNat)
  case atStart => exact ⟨0, [], Nat.zero_le _, rfl, rfl, HO1.out, HB1.out⟩
  case round =>
    obtain ⟨k, L, hk, rfl, hL, hown, hbel⟩ := hrel
    have hl : L.length = k := by rw [hL, fdsN_length]
    have HLE := Lib.hid hL
    have HNX := Lib.hid (fdsN_succ ss k)
    have HBW := Lib.hid hbel
    have HOW := Lib.hid hown
    have HLK := Lib.hid hl
    by_cases hlt : k < m
    · obtain ⟨i, hi⟩ : ∃ i, i = 2 * k := ⟨_, rfl⟩
      obtain ⟨j, hj⟩ : ∃ j, j = 2 * k + 1 := ⟨_, rfl⟩
      have hei : (2 * (k : Int)) = (i : Int) := by omega
      have HJ : Hid (IntKind.i64.wrap ((i : Int) + 1) = (j : Int)) := Lib.hid (by rw [IntWalk.i64_in _ (by omega)]; omega)
      obtain ⟨bs, os, heq, -, hb, hc⟩ := HS.out.at (i := i) (by have := HN.out; have := HM.out; simp; omega)
      subst heq
      have hbk : ∀ W, Keep (fun b => u3.ownBlock = some b) wr W → Below w.heap.size w W := fun W hW => hW.behind hbel hbel.size (fun q hq e => by have := (HOW.out.lt q e).1; omega)
      have hcc : ∀ (x : Nat) W, x < N → Keep (fun b => u3.ownBlock = some b) wr W → W.cell? ⟨bs, os + x, none⟩ = some (.string (ss.getD x ⟨#[]⟩)) := fun x W hx hW => by
        have hx' : x < ss.length := by rw [← HN.out]; exact hx
        have h := ((hbk W hW).cell (p := ⟨bs, os + x * 1, none⟩) hb).trans (hc x (stRow ss[x]) (by simp [hx']) 0 _ rfl)
        rw [Nat.mul_one] at h
        rw [h, List.getD_eq_getElem?_getD, List.getElem?_eq_getElem hx']
        rfl
      have hjN : j < N := by have := HN.out; have := HM.out; omega
      have HC0 := Lib.hid (fun W hW => hcc i W (by omega) hW)
      have HC1 := Lib.hid (fun W hW => hcc j W hjN hW)
      have HIK := Lib.hid hi
      clear hcc hbk hjN
      rw [← hj, ← hi] at HNX
      generalize ss.getD i ⟨#[]⟩ = s0 at *
      generalize ss.getD j ⟨#[]⟩ = s1 at *
      have HKM : Hid (k < m) := Lib.hid hlt
      have HLR : Hid (L.length + 1 ≤ maxLen ∧ (L.length + 1) * 32 ≤ 140737488355328) := Lib.hid (by rw [hl]; simp only [maxLen]; omega)
      have tj : (j : Int) < (N : Int) := by have := HNM.out; omega
      have ti : (i : Int) < (N : Int) := by have := HNM.out; omega
      have tk : (i : Int) + 1 < (N : Int) := by have := HNM.out; omega
      have hi100 : (i : Int) ≤ 200 := by omega
      rw [hei]
      clear hk hl hL hown hbel hb hc hi hj hlt hei
      go_wp2_with fail
      refine Ord.region_lit (fun
        | 0 => Ord.val (u3)
        | 1 => Ord.val (.slice (some ⟨bs, os, none⟩) N cs)
        | 2 => Ord.val (.int .i64 (i : Int))
        | 3 => Ord.val (.pointer (some ⟨bs, os + i, none⟩))
        | 4 => Ord.val (.string s0)
        | 5 => Ord.val (.slice (some ⟨bs, os, none⟩) N cs)
        | 6 => Ord.val (.int .i64 (i : Int))
        | 7 => Ord.val (.int .i64 (j : Int))
        | 8 => Ord.val (.pointer (some ⟨bs, os + j, none⟩))
        | 9 => Ord.val (.string s1)
        | 10 => Ord.val (.agg #[.string s0, .string s1])
        | 11 => Ord.one 256 #[.string s0, .string s1]
        | 12 => Ord.grownB w.heap.size 256 2 (L.length + 1) (fdCells L ++ (#[.string s0, .string s1] : Array Value).toList) 11 u3
        | 13 => Ord.own w.heap.size 256 2 (L.length + 1) (fdCells L ++ (#[.string s0, .string s1] : Array Value).toList) [12]
        | _ => Ord.idle) (fun b => u3.ownBlock = some b) (by kernel_rfl) (by kernel_rfl) (by kernel_rfl) ?_ ?_ ?_ ?_
      · intro i _
        match i with
        | 0 => exact Ord.lasts_val _
        | 1 => exact Ord.lasts_val _
        | 2 => exact Ord.lasts_val _
        | 3 => exact Ord.lasts_val _
        | 4 => exact Ord.lasts_val _
        | 5 => exact Ord.lasts_val _
        | 6 => exact Ord.lasts_val _
        | 7 => exact Ord.lasts_val _
        | 8 => exact Ord.lasts_val _
        | 9 => exact Ord.lasts_val _
        | 10 => exact Ord.lasts_val _
        | 11 => exact Ord.lasts_one _ _
        | 12 => exact Ord.lasts_grownB _ _ _ _ _ _ _
        | 13 => exact Ord.lasts_own _ _ _ _ _ _
        | n + 14 => exact Ord.lasts_idle
      · refine ⟨fun k b _ hh => ?_, fun k b _ hh => ?_, fun k k' b _ _ hne h1 h2 => ?_⟩
        · match k, hh with
          | 0, hh => exact hh.elim
          | 1, hh => exact hh.elim
          | 2, hh => exact hh.elim
          | 3, hh => exact hh.elim
          | 4, hh => exact hh.elim
          | 5, hh => exact hh.elim
          | 6, hh => exact hh.elim
          | 7, hh => exact hh.elim
          | 8, hh => exact hh.elim
          | 9, hh => exact hh.elim
          | 10, hh => exact hh.elim
          | 11, hh => exact hh.elim
          | 12, hh => exact hh
          | 13, hh => exact hh.elim
          | m + 14, hh => exact hh.elim
        · match k, hh with
          | 0, hh => exact hh.elim
          | 1, hh => exact hh.elim
          | 2, hh => exact hh.elim
          | 3, hh => exact hh.elim
          | 4, hh => exact hh.elim
          | 5, hh => exact hh.elim
          | 6, hh => exact hh.elim
          | 7, hh => exact hh.elim
          | 8, hh => exact hh.elim
          | 9, hh => exact hh.elim
          | 10, hh => exact hh.elim
          | 11, hh => exact hh.elim
          | 12, hh => exact (HOW.out.lt _ hh).2
          | 13, hh => exact hh.elim
          | m + 14, hh => exact hh.elim
        · have a : (k = 12 ∧ (fun b => u3.ownBlock = some b) b) := by
            match k, h1 with
            | 0, hh => exact hh.elim
            | 1, hh => exact hh.elim
            | 2, hh => exact hh.elim
            | 3, hh => exact hh.elim
            | 4, hh => exact hh.elim
            | 5, hh => exact hh.elim
            | 6, hh => exact hh.elim
            | 7, hh => exact hh.elim
            | 8, hh => exact hh.elim
            | 9, hh => exact hh.elim
            | 10, hh => exact hh.elim
            | 11, hh => exact hh.elim
            | 12, hh => exact ⟨rfl, hh⟩
            | 13, hh => exact hh.elim
            | m + 14, hh => exact hh.elim
          have a' : (k' = 12 ∧ (fun b => u3.ownBlock = some b) b) := by
            match k', h2 with
            | 0, hh => exact hh.elim
            | 1, hh => exact hh.elim
            | 2, hh => exact hh.elim
            | 3, hh => exact hh.elim
            | 4, hh => exact hh.elim
            | 5, hh => exact hh.elim
            | 6, hh => exact hh.elim
            | 7, hh => exact hh.elim
            | 8, hh => exact hh.elim
            | 9, hh => exact hh.elim
            | 10, hh => exact hh.elim
            | 11, hh => exact hh.elim
            | 12, hh => exact ⟨rfl, hh⟩
            | 13, hh => exact hh.elim
            | m + 14, hh => exact hh.elim
          rcases a with ⟨rfl, a⟩ <;> rcases a' with ⟨rfl, a'⟩
          all_goals first | exact absurd rfl hne | (exact hne rfl)
      · refine ⟨?_, ?_, ?_, ?_, ?_, ?_, ?_, ?_, ?_, ?_, ?_, ?_, ?_, ?_, trivial⟩
        · refine Ord.owes_plain rfl fun ρ Os wo hs' hb hc' => ?_
          have h3 : ρ (.tmp 3) = u3 := hs'.old' 3 (by kernel_rfl)
          exact Any.ok_move (Ord.post_val rfl h3)
        · refine Ord.owes_plain rfl fun ρ Os wo hs' hb hc' => ?_
          have h0 : ρ (.tmp 0) = .slice (some ⟨bs, os, none⟩) N cs := hs'.old' 0 (by kernel_rfl)
          exact Any.ok_move (Ord.post_val rfl h0)
        · refine Ord.owes_plain rfl fun ρ Os wo hs' hb hc' => ?_
          have h4 : ρ (.tmp 4) = .int .i64 (i : Int) := hs'.old' 4 (by kernel_rfl)
          exact Any.ok_move (Ord.post_val rfl h4)
        · refine Ord.owes_plain rfl fun ρ Os wo hs' hb hc' => ?_
          have h17 : ρ (.tmp 17) = .slice (some ⟨bs, os, none⟩) N cs := hs'.val' 17 1 (by kernel_rfl) rfl
          have h18 : ρ (.tmp 18) = .int .i64 (i : Int) := hs'.val' 18 2 (by kernel_rfl) rfl
          go_simp
          exact Ord.post_val rfl rfl
        · refine Ord.owes_plain rfl fun ρ Os wo hs' hb hc' => ?_
          have h19 : ρ (.tmp 19) = .pointer (some ⟨bs, os + i, none⟩) := hs'.val' 19 3 (by kernel_rfl) rfl
          have c0 := HC0.out wo hb.undrew
          go_simp
          exact Ord.post_val rfl rfl
        · refine Ord.owes_plain rfl fun ρ Os wo hs' hb hc' => ?_
          have h0 : ρ (.tmp 0) = .slice (some ⟨bs, os, none⟩) N cs := hs'.old' 0 (by kernel_rfl)
          exact Any.ok_move (Ord.post_val rfl h0)
        · refine Ord.owes_plain rfl fun ρ Os wo hs' hb hc' => ?_
          have h4 : ρ (.tmp 4) = .int .i64 (i : Int) := hs'.old' 4 (by kernel_rfl)
          exact Any.ok_move (Ord.post_val rfl h4)
        · refine Ord.owes_plain rfl fun ρ Os wo hs' hb hc' => ?_
          have h22 : ρ (.tmp 22) = .int .i64 (i : Int) := hs'.val' 22 6 (by kernel_rfl) rfl
          go_simp
          exact Ord.post_val rfl (congrArg _ HJ.out)
        · refine Ord.owes_plain rfl fun ρ Os wo hs' hb hc' => ?_
          have h21 : ρ (.tmp 21) = .slice (some ⟨bs, os, none⟩) N cs := hs'.val' 21 5 (by kernel_rfl) rfl
          have h23 : ρ (.tmp 23) = .int .i64 (j : Int) := hs'.val' 23 7 (by kernel_rfl) rfl
          go_simp
          exact Ord.post_val rfl rfl
        · refine Ord.owes_plain rfl fun ρ Os wo hs' hb hc' => ?_
          have h24 : ρ (.tmp 24) = .pointer (some ⟨bs, os + j, none⟩) := hs'.val' 24 8 (by kernel_rfl) rfl
          have c0 := HC1.out wo hb.undrew
          go_simp
          exact Ord.post_val rfl rfl
        · refine Ord.owes_plain rfl fun ρ Os wo hs' hb hc' => ?_
          have h20 : ρ (.tmp 20) = .string s0 := hs'.val' 20 4 (by kernel_rfl) rfl
          have h25 : ρ (.tmp 25) = .string s1 := hs'.val' 25 9 (by kernel_rfl) rfl
          go_simp
          exact Ord.post_val rfl rfl
        · refine Ord.owes_plain rfl fun ρ Os wo hs' hb hc' => ?_
          have h26 : ρ (.tmp 26) = .agg #[.string s0, .string s1] := hs'.val' 26 10 (by kernel_rfl) rfl
          go_simp
          exact Ord.post_one rfl
        · refine Ord.owes_plain rfl fun ρ Os wo hs' hb hc' => ?_
          have h16 : ρ (.tmp 16) = u3 := hs'.val' 16 0 (by kernel_rfl) rfl
          exact Ord.ok_grownB Tryz.underlying194 HI.out.1 HI.out.2.1 HI.out.2.2.1 HI.out.2.2.2 rfl (by decide) h16 (hs'.new' 27 11 (by kernel_rfl)) HOW.out hs'.here rfl (by simp [Value.oneCell']) HLR.out.1 HLR.out.2 (Nat.le_trans HBW.out.size (show wr.heap.size ≤ wo.heap.size from hb.size)) rfl
        · refine Ord.owes_plain rfl fun ρ Os wo hs' hb hc' => ?_
          obtain ⟨_, hr1, hr2⟩ := hs'.new' 28 12 (by kernel_rfl)
          exact Any.ok_assign (Ord.post_passB hr1 hr2 List.mem_cons_self rfl)
      intro vals Os ρs w8 hk hkn hln hap hbd
      obtain ⟨k1, -⟩ := hkn 13 (by kernel_rfl)
      have HK8 := Lib.hid hk
      have K1 := Lib.hid k1
      clear hkn hln hap hbd hk k1
      simp only [Any.putAll]
      go_frame
      generalize vals 13 = u8 at *
      go_wp2_with fail
      go_roundw
      case rel => exact ⟨k + 1, L ++ [⟨s0, s1⟩], by have := HKM.out; omega, (by have h := HIK.out; simp only [Value.int.injEq, true_and]; omega), by rw [HNX.out, HLE.out], by rw [List.length_append, fdCells_append]; exact K1.out, HK8.out.behind HBW.out HBW.out.size (fun q hq e => by have := (HOW.out.lt q e).1; omega)⟩
      case measure => have := HKM.out; have := HIK.out; (simp [intOf]) <;> omega
    · obtain rfl : k = m := by omega
      have tk : ¬ (2 * (k : Int) + 1 < (N : Int)) := by have := HNM.out; omega
      have tk' : (2 * (k : Int)) ≤ 1000 := by omega
      clear hk hown hbel hlt hL
      go_wp2_with fail
      go_ret
      exact retRow (by have h := HOW.out; rw [HLK.out] at h; rw [← HLE.out]; exact h) (Nat.le_refl _) HBW.out
end Go.Proofs.YtbigoifpfkdkjaaGreatDoor.Sc
