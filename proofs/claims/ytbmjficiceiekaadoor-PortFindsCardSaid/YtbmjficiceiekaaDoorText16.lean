/- The text of a voyage: by the program. -/
import Derived.Test.YtbmjficiceiekaaDoorMay16
import Derived.Test.YtbmjficiceiekaaDoorBld16
import Derived.Test.YtbmjficiceiekaaDoorAnyLast
import Derived.Test.YtbmjficiceiekaaDoorGuard
namespace Go.Proofs.YtbmjficiceiekaaDoor.Any
open Go Go.RowKit
theorem ok_add_str {P : Program} {dst : Option Tmp} {t t2 ty : TypeId} {pos : String} {after : Array Edge} {gd : Option (Nat × Bool)} {ρ : Operand → Value} {w : World} {R : Value → World → Prop} {x y : Operand} {a b : ByteArray} (hx : ρ x = .string a) (hy : ρ y = .string b) (hn : a.size + b.size ≤ 9223372036854775807) (h : R (.string (a ++ b)) w) :
    OpOk P ⟨dst, .binOp .add t x y t2, ty, pos, after, gd⟩ ρ w R := by
  have hn' : ¬ 9223372036854775807 < a.size + b.size := by omega
  go_simp
  exact h
end Go.Proofs.YtbmjficiceiekaaDoor.Any
namespace Go.Proofs.YtbmjficiceiekaaDoor.Sc
open Go Go.RowKit Go.ChangeShapes Go.WideShapes Go.ChangeAt Go.Shelf
set_option maxRecDepth 100000

theorem dec_len : ∀ (k u : Nat), u < 10 ^ (k + 1) → (Lib.decDigits u).length ≤ k + 1
  | 0, u, h => by
    rw [Lib.decDigits, dif_pos (by omega)]; simp
  | k + 1, u, h => by
    rw [Lib.decDigits]
    split
    · simp
    · have h2 : u / 10 < 10 ^ (k + 1) := by
        rw [Nat.pow_succ] at h
        omega
      have := dec_len k (u / 10) h2
      simp; omega
theorem itoa_len {n : Int} (h0 : 0 ≤ n) (h1 : n ≤ 1048576) : (Lib.itoa n).length ≤ 7 := by
  rw [Lib.itoa, if_neg (by omega)]
  exact dec_len 6 n.toNat (by omega)
def clT (c : Cl) : List UInt8 := 32 :: (c.port.data.toList ++ 64 :: (Lib.itoa c.arr ++ 45 :: (Lib.itoa c.dep ++ 47 :: Lib.itoa c.cut)))
def textL (s : ByteArray) (l : List Cl) : List UInt8 := s.data.toList ++ l.flatMap clT
def textV (s : ByteArray) (l : List Cl) : ByteArray := if mayV s l = true then txt (textL s l) else ⟨#[]⟩
theorem clT_len {c : Cl} (h : okC c = true) : (clT c).length ≤ 100 := by
  have h1 := okC_range h
  have h2 := itoa_len h1.1.1 h1.1.2
  have h3 := itoa_len h1.2.1.1 h1.2.1.2
  have h4 := itoa_len h1.2.2.1.1 h1.2.2.1.2
  have h5 := h1.2.2.2.2.2
  simp only [nameOk, Bool.and_eq_true, decide_eq_true_eq] at h5
  have h6 : c.port.data.toList.length = c.port.size := by rw [Array.length_toList]; rfl
  simp only [clT, List.length_cons, List.length_append, h6]
  omega
theorem flat_clT_len : ∀ (l : List Cl), (∀ x ∈ l, okC x = true) → (l.flatMap clT).length ≤ l.length * 100
  | [], _ => by simp
  | c :: r, h => by
    have h1 := clT_len (h c List.mem_cons_self)
    have h2 := flat_clT_len r fun x hx => h x (List.mem_cons_of_mem _ hx)
    rw [List.flatMap_cons, List.length_append, List.length_cons]
    omega
theorem ba_append (a b : ByteArray) : (a ++ b).data.toList = a.data.toList ++ b.data.toList := by
  rw [ByteArray.data_append, Array.toList_append]
theorem clT_is (cp : ByteArray) (cu ca cd : Int) : (⟨#[32]⟩ ++ cp ++ ⟨#[64]⟩ ++ txt (Lib.itoa ca) ++ ⟨#[45]⟩ ++ txt (Lib.itoa cd) ++ ⟨#[47]⟩ ++ txt (Lib.itoa cu)).data.toList = clT ⟨cp, cu, ca, cd⟩ := by
  simp only [ba_append, clT, txt]
  simp
theorem byteCells_append (a b : List UInt8) : Lib.byteCells (a ++ b) = Lib.byteCells a ++ Lib.byteCells b := by simp [Lib.byteCells]
theorem builder_below {T e : TypeId} {B b : Nat} {p : Value} {bs : List Value} {w w' : World} (h : Lib.BuilderAt T e B b p bs w) (hb : Below w.heap.size w w') : Lib.BuilderAt T e B b p bs w' := by
  obtain ⟨h1, v, h2, h3, h4⟩ := h
  exact ⟨h1, v, blk hb (lt_blk h2) h2, ownsRow_below h3 hb, h4⟩
set_option maxHeartbeats 8000000 in
theorem text_any (s : ByteArray) (v : Value) (l : List Cl) (w : World) (hs : Sl w 4 v (l.map Cl.row)) (ht : TabW w) : Calls Tryd.prog 23 #[.agg #[.string s, v]] w (Ret w (.string (textV s l))) := by
  have hll : l.length ≤ 9223372036854775807 := by have := hs.len_le; simp only [List.length_map, maxLen] at this; omega
  obtain ⟨a, c, rfl⟩ : ∃ a c, v = .slice a l.length c := by simpa using hs.shape
  have HS := Lib.hid hs
  have HT := Lib.hid ht
  have HX0 := Lib.hid (heap_alloc_new w (.cells #[.string s, .slice a l.length c] 32))
  have z0 := cell_blk HX0.out 0
  have z1 := cell_blk HX0.out 1
  have HMY := Lib.hid (mayP_any s (.slice a l.length c) l (w.alloc (.cells #[.string s, .slice a l.length c] 32)) (hs.below (one_below _ _) (Nat.le_refl _)))
  have HTV : Hid (textV s l = if mayV s l = true then txt (textL s l) else ⟨#[]⟩) := Lib.hid rfl
  have HMV : Hid (mayV s l = true → (∀ x ∈ l, okC x = true) ∧ l.length ≤ 64 ∧ s.size ≤ 16) := Lib.hid (fun h => by
    have h2 := mayV_cs h
    refine ⟨fun x hx => ?_, h2.2.2.1, ?_⟩
    · obtain ⟨i, hi, rfl⟩ := List.getElem_of_mem hx
      exact mayCs_at h2.2.2.2 hi
    · have h3 := h2.1
      simp only [nameOk, Bool.and_eq_true, decide_eq_true_eq] at h3
      omega)
  generalize mayV s l = r at *
  clear hs ht
  cases r
  · go_enter Tryd.func23, Tryd.ntmps23
    go_wp2_with (first
      | ((with_reducible refine HMY.out.mono ?_); rintro e w1 ⟨rfl, hb1⟩; have HB1 := Lib.hid (below_new hb1); clear hb1)
      | fail)
    go_ret
    exact ⟨by rw [HTV.out]; rfl, HB1.out⟩
  have HOK := Lib.hid (HMV.out rfl)
  have hl64 : l.length ≤ 64 := HOK.out.2.1
  have HWS := Lib.hid (fun (B b : Nat) (bs : List Value) (x : ByteArray) (W : World) (h : Lib.IsBuilder 74 5 B b bs W) (hl : bs.length + x.size ≤ 140737488355328) (hB : B ≤ W.heap.size) => writeString_any B b bs x W h hl hB)
  go_enter Tryd.func23, Tryd.ntmps23
  go_wp2_with (first
    | ((with_reducible refine HMY.out.mono ?_); rintro e w1 ⟨rfl, hb1⟩
       have HB1 := Lib.hid (below_new hb1); have HX1 := Lib.hid (blk hb1 (lt_blk HX0.out) HX0.out); have y0 := cell_blk HX1.out 0; have y1 := cell_blk HX1.out 1; have l1 := lt_blk HX1.out
       have HBD : Hid (Lib.IsBuilder 74 5 w1.heap.size w1.heap.size [] (w1.alloc (.cells #[.pointer none, .slice none 0 0] 74))) := Lib.hid (.inl ⟨Nat.le_refl _, _, heap_alloc_new _ _, World.ownsRow_nil _ _ _ _, by simp [Value.ownBlock]⟩)
       clear hb1)
    | ((with_reducible refine (HWS.out w1.heap.size w1.heap.size [] s _ HBD.out ?_ ?_).mono ?_); (have := HOK.out.2.2; simp; omega); (simp); rintro e w2 ⟨rfl, hbd2, hb2⟩
       have HD2 := Lib.hid hbd2; have HB2 := Lib.hid (((one_below w1 _).trans hb2 : Below w1.heap.size w1 w2))
       have HX2 := Lib.hid (blk HB2.out (lt_blk HX1.out) HX1.out); clear y0 y1 l1; have y0 := cell_blk HX2.out 0; have y1 := cell_blk HX2.out 1; clear hbd2 hb2)
    | fail)
  clear z0 z1
  obtain ⟨bb, hbb⟩ : ∃ bb, bb = w1.heap.size := ⟨_, rfl⟩
  have HBS := Lib.hid hbb
  rw [← hbb] at HD2 HB2 ⊢
  have HBW : Hid (w.heap.size < bb) := Lib.hid (by rw [hbb]; exact lt_blk HX1.out)
  clear hbb
  go_loopw [5, 15] (fun _ i wr => ∃ k : Nat, k ≤ l.length ∧ i = .int .i64 k ∧ Lib.BuilderAt 74 5 bb bb (.pointer (some ⟨bb, 0, none⟩)) (Lib.byteCells (s.data.toList ++ (l.take k).flatMap clT)) wr ∧ Below bb w1 wr) (fun _ i _ => l.length - (intOf i).toNat)
  case atStart => exact ⟨0, Nat.zero_le _, rfl, by simpa [Lib.strCells, Lib.byteCells] using HD2.out, HB2.out⟩
  case round =>
    obtain ⟨k, hk, rfl, hbd, hbel⟩ := hrel
    have HBL := Lib.hid hbel
    have HBW1 := Lib.hid (HB1.out.trans (hbel.mono (Nat.le_of_lt HBW.out)))
    have HBD := Lib.hid hbd
    clear hbd hbel y0 y1
    by_cases hlt : k < l.length
    · obtain ⟨b, off, rfl, hb, hp⟩ := cl_at HS.out hlt
      obtain ⟨d0, d1, d2, d3⟩ := hp.below hb HBW1.out
      have hki : ((k : Nat) : Int) < (l.length : Int) := by omega
      have HKL := Lib.hid hlt
      have hok := okC_range (HOK.out.1 _ (List.getElem_mem hlt))
      have HNX : Hid (s.data.toList ++ (l.take (k + 1)).flatMap clT = (s.data.toList ++ (l.take k).flatMap clT) ++ clT l[k]) := Lib.hid (by
        rw [List.take_succ_eq_append_getElem hlt, List.flatMap_append, List.append_assoc]
        congr 2
        exact List.append_nil _)
      have HLN : Hid ((s.data.toList ++ (l.take k).flatMap clT).length ≤ 16 + k * 100 ∧ (clT l[k]).length ≤ 100) := Lib.hid (by
        have h1 := flat_clT_len (l.take k) (fun x hx => HOK.out.1 x (List.mem_of_mem_take hx))
        have h2 := HOK.out.2.2
        have h3 : s.data.toList.length = s.size := by rw [Array.length_toList]; rfl
        rw [List.length_take] at h1
        refine ⟨?_, clT_len (HOK.out.1 _ (List.getElem_mem hlt))⟩
        rw [List.length_append, h3]
        omega)
      generalize l[k] = x at *
      obtain ⟨cp, cu, ca, cd⟩ := x
      simp only at d0 d1 d2 d3 hok
      obtain ⟨W5, hW5⟩ : ∃ W5, W5 = wr.alloc (.cells #[.string cp, .int .i64 cu, .int .i64 ca, .int .i64 cd] 39) := ⟨_, rfl⟩
      have HW5 := Lib.hid hW5
      obtain ⟨bc, hbc⟩ : ∃ bc, bc = wr.heap.size := ⟨_, rfl⟩
      have HXC : Hid (W5.heap[bc]? = some (.cells #[.string cp, .int .i64 cu, .int .i64 ca, .int .i64 cd] 39 (0, 0))) := Lib.hid (by rw [hW5, hbc]; exact heap_alloc_new _ _)
      have HX : Hid (∀ W, Below W5.heap.size W5 W → W.cell? ⟨bc, 0, none⟩ = some (.string cp) ∧ W.cell? ⟨bc, 1, none⟩ = some (.int .i64 cu) ∧ W.cell? ⟨bc, 2, none⟩ = some (.int .i64 ca) ∧ W.cell? ⟨bc, 3, none⟩ = some (.int .i64 cd)) := Lib.hid (fun W hW => by
        have h1 := blk hW (lt_blk HXC.out) HXC.out
        exact ⟨cell_blk h1 0, cell_blk h1 1, cell_blk h1 2, cell_blk h1 3⟩)
      have hT5 : TabW W5 := (HT.out.below HBW1.out).below (by rw [hW5]; exact one_below _ _)
      have HIA := Lib.hid (fun W (hW : Below W5.heap.size W5 W) => itoa_any ca (by omega) (by omega) W (hT5.below hW))
      have HID := Lib.hid (fun W (hW : Below W5.heap.size W5 W) => itoa_any cd (by omega) (by omega) W (hT5.below hW))
      have HIU := Lib.hid (fun W (hW : Below W5.heap.size W5 W) => itoa_any cu (by omega) (by omega) W (hT5.below hW))
      have hbb5 : Below bb w1 W5 := by rw [hW5]; exact HBL.out.alloc (by have := HBL.out.size; have := HBS.out; omega) _
      have HBB5 := Lib.hid hbb5
      have HBD5 : Hid (Lib.BuilderAt 74 5 bb bb (.pointer (some ⟨bb, 0, none⟩)) (Lib.byteCells (s.data.toList ++ (l.take k).flatMap clT)) W5) := Lib.hid (by rw [hW5]; exact builder_below HBD.out (one_below _ _))
      have HZA : Hid (cp.size ≤ 16 ∧ (txt (Lib.itoa ca)).size ≤ 7 ∧ (txt (Lib.itoa cd)).size ≤ 7 ∧ (txt (Lib.itoa cu)).size ≤ 7) := Lib.hid (by
        have h5 := hok.2.2.2.2.2
        simp only [nameOk, Bool.and_eq_true, decide_eq_true_eq] at h5
        exact ⟨h5.2.1, itoa_len hok.2.1.1 hok.2.1.2, itoa_len hok.2.2.1.1 hok.2.2.1.2, itoa_len hok.1.1 hok.1.2⟩)
      clear hW5 hp hb hT5 hbb5 hok
      have HCT := Lib.hid (clT_is cp cu ca cd)
      go_wp2_with fail
      rw [← hbc, ← HW5.out]
      clear hbc
      refine Any.region_litL (fun
        | 0 => Any.val (.pointer (some ⟨bc, 0, none⟩))
        | 1 => Any.val (.string (cp))
        | 2 => Any.val (.string (⟨#[32]⟩ ++ cp))
        | 3 => Any.val (.string (⟨#[32]⟩ ++ cp ++ ⟨#[64]⟩))
        | 4 => Any.val (.pointer (some ⟨bc, 2, none⟩))
        | 5 => Any.val (.int .i64 ca)
        | 6 => Any.val (.string (txt (Lib.itoa ca)))
        | 7 => Any.val (.string (⟨#[32]⟩ ++ cp ++ ⟨#[64]⟩ ++ txt (Lib.itoa ca)))
        | 8 => Any.val (.string (⟨#[32]⟩ ++ cp ++ ⟨#[64]⟩ ++ txt (Lib.itoa ca) ++ ⟨#[45]⟩))
        | 9 => Any.val (.pointer (some ⟨bc, 3, none⟩))
        | 10 => Any.val (.int .i64 cd)
        | 11 => Any.val (.string (txt (Lib.itoa cd)))
        | 12 => Any.val (.string (⟨#[32]⟩ ++ cp ++ ⟨#[64]⟩ ++ txt (Lib.itoa ca) ++ ⟨#[45]⟩ ++ txt (Lib.itoa cd)))
        | 13 => Any.val (.string (⟨#[32]⟩ ++ cp ++ ⟨#[64]⟩ ++ txt (Lib.itoa ca) ++ ⟨#[45]⟩ ++ txt (Lib.itoa cd) ++ ⟨#[47]⟩))
        | 14 => Any.val (.pointer (some ⟨bc, 1, none⟩))
        | 15 => Any.val (.int .i64 cu)
        | 16 => Any.val (.string (txt (Lib.itoa cu)))
        | 17 => Any.val (.string (⟨#[32]⟩ ++ cp ++ ⟨#[64]⟩ ++ txt (Lib.itoa ca) ++ ⟨#[45]⟩ ++ txt (Lib.itoa cd) ++ ⟨#[47]⟩ ++ txt (Lib.itoa cu)))
        | _ => Any.idle) 18 _ (by kernel_rfl) rfl rfl rfl (by kernel_rfl) (by kernel_rfl) (by kernel_rfl) ?_ ?_ ?_
      · intro i _
        match i with
        | 0 => exact Any.lasts_val _
        | 1 => exact Any.lasts_val _
        | 2 => exact Any.lasts_val _
        | 3 => exact Any.lasts_val _
        | 4 => exact Any.lasts_val _
        | 5 => exact Any.lasts_val _
        | 6 => exact Any.lasts_val _
        | 7 => exact Any.lasts_val _
        | 8 => exact Any.lasts_val _
        | 9 => exact Any.lasts_val _
        | 10 => exact Any.lasts_val _
        | 11 => exact Any.lasts_val _
        | 12 => exact Any.lasts_val _
        | 13 => exact Any.lasts_val _
        | 14 => exact Any.lasts_val _
        | 15 => exact Any.lasts_val _
        | 16 => exact Any.lasts_val _
        | 17 => exact Any.lasts_val _
        | n + 18 => exact Any.lasts_idle
      · simp only [List.take_succ_cons, List.take_zero]
        refine ⟨?_, ?_, ?_, ?_, ?_, ?_, ?_, ?_, ?_, ?_, ?_, ?_, ?_, ?_, ?_, ?_, ?_, ?_, trivial⟩
        · refine Any.owes_plain rfl fun ρ wo hs' hb hc' => ?_
          have h5 : ρ (.tmp 5) = .pointer (some ⟨bc, 0, none⟩) := hs'.old' 5 (by kernel_rfl)
          go_simp
          exact Any.post_val hb rfl rfl
        · refine Any.owes_plain rfl fun ρ wo hs' hb hc' => ?_
          have h19 : ρ (.tmp 19) = .pointer (some ⟨bc, 0, none⟩) := hs'.new' 19 0 (by kernel_rfl)
          obtain ⟨c0, c1, c2, c3⟩ := HX.out wo (below_undrew hb)
          go_simp
          exact Any.post_val hb rfl rfl
        · refine Any.owes_plain rfl fun ρ wo hs' hb hc' => ?_
          have h20 : ρ (.tmp 20) = .string (cp) := hs'.new' 20 1 (by kernel_rfl)
          exact Any.ok_add_str (hc' _) (h20) (by have := HZA.out; have e1 : (⟨#[32]⟩ : ByteArray).size = 1 := rfl; have e2 : (⟨#[64]⟩ : ByteArray).size = 1 := rfl; have e3 : (⟨#[45]⟩ : ByteArray).size = 1 := rfl; have e4 : (⟨#[47]⟩ : ByteArray).size = 1 := rfl; (try simp only [ByteArray.size_append]); omega) (Any.post_val hb rfl rfl)
        · refine Any.owes_plain rfl fun ρ wo hs' hb hc' => ?_
          have h21 : ρ (.tmp 21) = .string (⟨#[32]⟩ ++ cp) := hs'.new' 21 2 (by kernel_rfl)
          exact Any.ok_add_str (h21) (hc' _) (by have := HZA.out; have e1 : (⟨#[32]⟩ : ByteArray).size = 1 := rfl; have e2 : (⟨#[64]⟩ : ByteArray).size = 1 := rfl; have e3 : (⟨#[45]⟩ : ByteArray).size = 1 := rfl; have e4 : (⟨#[47]⟩ : ByteArray).size = 1 := rfl; (try simp only [ByteArray.size_append]); omega) (Any.post_val hb rfl rfl)
        · refine Any.owes_plain rfl fun ρ wo hs' hb hc' => ?_
          have h5 : ρ (.tmp 5) = .pointer (some ⟨bc, 0, none⟩) := hs'.old' 5 (by kernel_rfl)
          go_simp
          exact Any.post_val hb rfl rfl
        · refine Any.owes_plain rfl fun ρ wo hs' hb hc' => ?_
          have h23 : ρ (.tmp 23) = .pointer (some ⟨bc, 2, none⟩) := hs'.new' 23 4 (by kernel_rfl)
          obtain ⟨c0, c1, c2, c3⟩ := HX.out wo (below_undrew hb)
          go_simp
          exact Any.post_val hb rfl rfl
        · refine Any.owes_plain rfl fun ρ wo hs' hb hc' => ?_
          have h24 : ρ (.tmp 24) = .int .i64 ca := hs'.new' 24 5 (by kernel_rfl)
          have hf := hs'.func 41
          go_simp
          exact (HIA.out wo (below_undrew hb)).mono fun e w' ⟨he, hb'⟩ => ⟨_, he, Any.post_vals hb rfl rfl hb'⟩
        · refine Any.owes_plain rfl fun ρ wo hs' hb hc' => ?_
          have h22 : ρ (.tmp 22) = .string (⟨#[32]⟩ ++ cp ++ ⟨#[64]⟩) := hs'.new' 22 3 (by kernel_rfl)
          have h25 : ρ (.tmp 25) = .string (txt (Lib.itoa ca)) := hs'.new' 25 6 (by kernel_rfl)
          exact Any.ok_add_str (h22) (h25) (by have := HZA.out; have e1 : (⟨#[32]⟩ : ByteArray).size = 1 := rfl; have e2 : (⟨#[64]⟩ : ByteArray).size = 1 := rfl; have e3 : (⟨#[45]⟩ : ByteArray).size = 1 := rfl; have e4 : (⟨#[47]⟩ : ByteArray).size = 1 := rfl; (try simp only [ByteArray.size_append]); omega) (Any.post_val hb rfl rfl)
        · refine Any.owes_plain rfl fun ρ wo hs' hb hc' => ?_
          have h26 : ρ (.tmp 26) = .string (⟨#[32]⟩ ++ cp ++ ⟨#[64]⟩ ++ txt (Lib.itoa ca)) := hs'.new' 26 7 (by kernel_rfl)
          exact Any.ok_add_str (h26) (hc' _) (by have := HZA.out; have e1 : (⟨#[32]⟩ : ByteArray).size = 1 := rfl; have e2 : (⟨#[64]⟩ : ByteArray).size = 1 := rfl; have e3 : (⟨#[45]⟩ : ByteArray).size = 1 := rfl; have e4 : (⟨#[47]⟩ : ByteArray).size = 1 := rfl; (try simp only [ByteArray.size_append]); omega) (Any.post_val hb rfl rfl)
        · refine Any.owes_plain rfl fun ρ wo hs' hb hc' => ?_
          have h5 : ρ (.tmp 5) = .pointer (some ⟨bc, 0, none⟩) := hs'.old' 5 (by kernel_rfl)
          go_simp
          exact Any.post_val hb rfl rfl
        · refine Any.owes_plain rfl fun ρ wo hs' hb hc' => ?_
          have h28 : ρ (.tmp 28) = .pointer (some ⟨bc, 3, none⟩) := hs'.new' 28 9 (by kernel_rfl)
          obtain ⟨c0, c1, c2, c3⟩ := HX.out wo (below_undrew hb)
          go_simp
          exact Any.post_val hb rfl rfl
        · refine Any.owes_plain rfl fun ρ wo hs' hb hc' => ?_
          have h29 : ρ (.tmp 29) = .int .i64 cd := hs'.new' 29 10 (by kernel_rfl)
          have hf := hs'.func 41
          go_simp
          exact (HID.out wo (below_undrew hb)).mono fun e w' ⟨he, hb'⟩ => ⟨_, he, Any.post_vals hb rfl rfl hb'⟩
        · refine Any.owes_plain rfl fun ρ wo hs' hb hc' => ?_
          have h27 : ρ (.tmp 27) = .string (⟨#[32]⟩ ++ cp ++ ⟨#[64]⟩ ++ txt (Lib.itoa ca) ++ ⟨#[45]⟩) := hs'.new' 27 8 (by kernel_rfl)
          have h30 : ρ (.tmp 30) = .string (txt (Lib.itoa cd)) := hs'.new' 30 11 (by kernel_rfl)
          exact Any.ok_add_str (h27) (h30) (by have := HZA.out; have e1 : (⟨#[32]⟩ : ByteArray).size = 1 := rfl; have e2 : (⟨#[64]⟩ : ByteArray).size = 1 := rfl; have e3 : (⟨#[45]⟩ : ByteArray).size = 1 := rfl; have e4 : (⟨#[47]⟩ : ByteArray).size = 1 := rfl; (try simp only [ByteArray.size_append]); omega) (Any.post_val hb rfl rfl)
        · refine Any.owes_plain rfl fun ρ wo hs' hb hc' => ?_
          have h31 : ρ (.tmp 31) = .string (⟨#[32]⟩ ++ cp ++ ⟨#[64]⟩ ++ txt (Lib.itoa ca) ++ ⟨#[45]⟩ ++ txt (Lib.itoa cd)) := hs'.new' 31 12 (by kernel_rfl)
          exact Any.ok_add_str (h31) (hc' _) (by have := HZA.out; have e1 : (⟨#[32]⟩ : ByteArray).size = 1 := rfl; have e2 : (⟨#[64]⟩ : ByteArray).size = 1 := rfl; have e3 : (⟨#[45]⟩ : ByteArray).size = 1 := rfl; have e4 : (⟨#[47]⟩ : ByteArray).size = 1 := rfl; (try simp only [ByteArray.size_append]); omega) (Any.post_val hb rfl rfl)
        · refine Any.owes_plain rfl fun ρ wo hs' hb hc' => ?_
          have h5 : ρ (.tmp 5) = .pointer (some ⟨bc, 0, none⟩) := hs'.old' 5 (by kernel_rfl)
          go_simp
          exact Any.post_val hb rfl rfl
        · refine Any.owes_plain rfl fun ρ wo hs' hb hc' => ?_
          have h33 : ρ (.tmp 33) = .pointer (some ⟨bc, 1, none⟩) := hs'.new' 33 14 (by kernel_rfl)
          obtain ⟨c0, c1, c2, c3⟩ := HX.out wo (below_undrew hb)
          go_simp
          exact Any.post_val hb rfl rfl
        · refine Any.owes_plain rfl fun ρ wo hs' hb hc' => ?_
          have h34 : ρ (.tmp 34) = .int .i64 cu := hs'.new' 34 15 (by kernel_rfl)
          have hf := hs'.func 41
          go_simp
          exact (HIU.out wo (below_undrew hb)).mono fun e w' ⟨he, hb'⟩ => ⟨_, he, Any.post_vals hb rfl rfl hb'⟩
        · refine Any.owes_plain rfl fun ρ wo hs' hb hc' => ?_
          have h32 : ρ (.tmp 32) = .string (⟨#[32]⟩ ++ cp ++ ⟨#[64]⟩ ++ txt (Lib.itoa ca) ++ ⟨#[45]⟩ ++ txt (Lib.itoa cd) ++ ⟨#[47]⟩) := hs'.new' 32 13 (by kernel_rfl)
          have h35 : ρ (.tmp 35) = .string (txt (Lib.itoa cu)) := hs'.new' 35 16 (by kernel_rfl)
          exact Any.ok_add_str (h32) (h35) (by have := HZA.out; have e1 : (⟨#[32]⟩ : ByteArray).size = 1 := rfl; have e2 : (⟨#[64]⟩ : ByteArray).size = 1 := rfl; have e3 : (⟨#[45]⟩ : ByteArray).size = 1 := rfl; have e4 : (⟨#[47]⟩ : ByteArray).size = 1 := rfl; (try simp only [ByteArray.size_append]); omega) (Any.post_val hb rfl rfl)
      · intro vals w6 hb hk
        have h17 : vals 17 = .string (⟨#[32]⟩ ++ cp ++ ⟨#[64]⟩ ++ txt (Lib.itoa ca) ++ ⟨#[45]⟩ ++ txt (Lib.itoa cd) ++ ⟨#[47]⟩ ++ txt (Lib.itoa cu)) := hk 17 (by kernel_rfl)
        have HB6 := Lib.hid hb
        clear hk hb
        simp only [List.take_succ_cons, List.take_zero, Any.putAll]
        go_frame
        simp only [Nat.zero_add, Nat.reduceAdd]
        rw [h17]
        clear h17
        have HWB := Lib.hid (HWS.out bb bb (Lib.byteCells (s.data.toList ++ (l.take k).flatMap clT)) (⟨#[32]⟩ ++ cp ++ ⟨#[64]⟩ ++ txt (Lib.itoa ca) ++ ⟨#[45]⟩ ++ txt (Lib.itoa cd) ++ ⟨#[47]⟩ ++ txt (Lib.itoa cu)) w6 (.inr (builder_below HBD5.out HB6.out)) (by
          have h1 := HLN.out
          have h2 : (⟨#[32]⟩ ++ cp ++ ⟨#[64]⟩ ++ txt (Lib.itoa ca) ++ ⟨#[45]⟩ ++ txt (Lib.itoa cd) ++ ⟨#[47]⟩ ++ txt (Lib.itoa cu)).size = (clT ⟨cp, cu, ca, cd⟩).length := by rw [← HCT.out, Array.length_toList]; rfl
          rw [h2]
          simp only [Lib.byteCells, List.length_map]
          omega) (by have := HBB5.out.size; have := HB6.out.size; have := HBS.out; omega))
        go_simp
        refine HWB.out.mono ?_
        rintro e w7 ⟨rfl, hbd7, hb7⟩
        have HBD7 := Lib.hid hbd7
        have HB7 := Lib.hid (HBB5.out.trans ((HB6.out.mono (by have := HBB5.out.size; have := HBS.out; omega)).trans hb7))
        clear hbd7 hb7
        refine ⟨_, rfl, ?_⟩
        go_wp2_with fail
        go_roundw
        case rel => exact ⟨k + 1, HKL.out, by go_num, by
          have h1 := HBD7.out
          rw [HNX.out, byteCells_append, ← HCT.out]
          exact h1, HB7.out⟩
        case measure => (simp [intOf]) <;> omega
    · have HTK : Hid (textL s l = s.data.toList ++ (l.take k).flatMap clT) := Lib.hid (by rw [textL, List.take_of_length_le (by omega)])
      have HSTR := Lib.hid (Tryd.Builder_String_any bb bb (textL s l) wr (by rw [HTK.out]; exact .inr HBD.out) (by have := HBL.out.size; have := HBS.out; omega))
      clear hk
      go_wp2_with (first
        | ((with_reducible refine HSTR.out.mono ?_); rintro e w9 ⟨rfl, hb9⟩; have HB9 := Lib.hid (HBL.out.trans hb9); clear hb9)
        | fail)
      go_ret
      exact ⟨by rw [HTV.out]; rfl, HB1.out.trans (HB9.out.mono (Nat.le_of_lt HBW.out))⟩
end Go.Proofs.YtbmjficiceiekaaDoor.Sc
