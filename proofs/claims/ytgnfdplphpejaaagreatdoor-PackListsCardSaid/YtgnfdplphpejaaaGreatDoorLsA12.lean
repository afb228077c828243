/- Lists of boxes: as texts; by the reference. -/
import Derived.Test.YtgnfdplphpejaaaGreatDoorRefMkC12
import Derived.Test.YtgnfdplphpejaaaGreatDoorBxL12
import Derived.Test.YtgnfdplphpejaaaGreatDoorMkB12
namespace Go.Proofs.YtgnfdplphpejaaaGreatDoor.Any
open Go Go.RowKit
theorem ok_add_str {P : Program} {dst : Option Tmp} {t t2 ty : TypeId} {pos : String} {after : Array Edge} {gd : Option (Nat × Bool)} {ρ : Operand → Value} {w : World} {R : Value → World → Prop} {x y : Operand} {a b : ByteArray} (hx : ρ x = .string a) (hy : ρ y = .string b) (hn : a.size + b.size ≤ 9223372036854775807) (h : R (.string (a ++ b)) w) :
    OpOk P ⟨dst, .binOp .add t x y t2, ty, pos, after, gd⟩ ρ w R := by
  have hn' : ¬ 9223372036854775807 < a.size + b.size := by omega
  go_simp
  exact h
end Go.Proofs.YtgnfdplphpejaaaGreatDoor.Any
namespace Go.Proofs.YtgnfdplphpejaaaGreatDoor.Sc
open Go Go.RowKit Go.ChangeShapes Go.WideShapes Go.ChangeAt
set_option maxRecDepth 100000

theorem dec_len : ∀ (k u : Nat), u < 10 ^ (k + 1) → (Lib.decDigits u).length ≤ k + 1
  | 0, u, h => by
    rw [Lib.decDigits, dif_pos (by omega)]; simp
  | k + 1, u, h => by
    rw [Lib.decDigits]
    split
    · simp
    · have h2 : u / 10 < 10 ^ (k + 1) := by
        rw [Nat.pow_succ] at h
        omega
      have := dec_len k (u / 10) h2
      simp; omega
theorem dec_len20 {u : Nat} (h : u ≤ 9223372036854775808) : (Lib.decDigits u).length ≤ 20 := dec_len 19 u (by omega)
theorem itoa_len20 {n : Int} (h0 : -9223372036854775808 ≤ n) (h1 : n ≤ 9223372036854775807) : (Lib.itoa n).length ≤ 21 := by
  rw [Lib.itoa]
  split
  · have := dec_len20 (u := n.natAbs) (by omega)
    simp only [List.length_cons]; omega
  · have := dec_len20 (u := n.toNat) (by omega)
    omega
theorem preD_step {m : Nat} (h : 10 ≤ m) : preD m = preD (m / 10) ++ [dg (m / 10)] := by
  rw [preD, if_neg (by omega), dec_pre]
def lotT (x : Lt) : List UInt8 := 32 :: (bt x.good ++ 58 :: Lib.itoa x.cnt)
def lotsB (l : List Lt) : List UInt8 := l.flatMap lotT
def lotsT (l : List Lt) : List UInt8 := lotsB l ++ [10]
def sizeT (k : Int) : List UInt8 := if k = 0 then [115, 109, 97, 108, 108] else if k = 1 then [108, 97, 114, 103, 101] else [111, 116, 104, 101, 114]
def boxT (b : Bx) : List UInt8 := bt b.mark ++ 32 :: (sizeT b.kind ++ lotsT b.lots)
def listB (bs : List Bx) : List UInt8 := bs.flatMap boxT
def listT (bs : List Bx) : List UInt8 := listB bs ++ ([97, 108, 108] ++ lotsT (joinL (allLots bs)))
/-- Of a lot: its text is short. -/
structure Lt.short (x : Lt) : Prop where
  name : x.good.size ≤ 60
  lo : -9223372036854775808 ≤ x.cnt
  hi : x.cnt ≤ 9223372036854775807
theorem lotT_len {x : Lt} (h : x.short) : (lotT x).length ≤ 83 := by
  have h1 := itoa_len20 h.lo h.hi
  have h2 := h.name
  simp only [lotT, List.length_cons, List.length_append, bt_len]
  omega
theorem lotsB_len : ∀ (l : List Lt), (∀ x ∈ l, x.short) → (lotsB l).length ≤ 83 * l.length
  | [], _ => by simp [lotsB]
  | x :: r, h => by
    have h1 := lotT_len (h x List.mem_cons_self)
    have h2 := lotsB_len r fun y hy => h y (List.mem_cons_of_mem _ hy)
    show (lotT x ++ lotsB r).length ≤ _
    rw [List.length_append, List.length_cons]
    omega
theorem lotsB_snoc {l : List Lt} {k : Nat} (h : k < l.length) : lotsB (l.take (k + 1)) = lotsB (l.take k) ++ lotT l[k] := by
  rw [List.take_succ_eq_append_getElem h, lotsB, List.flatMap_append, ← lotsB]
  simp
theorem sizeT_len (k : Int) : (sizeT k).length = 5 := by
  unfold sizeT
  split
  · rfl
  · split <;> rfl
theorem boxT_len {b : Bx} (hm : b.mark.size ≤ 40) (hl : b.lots.length ≤ 12) (h : ∀ x ∈ b.lots, x.short) : (boxT b).length ≤ 2000 := by
  have h1 := lotsB_len b.lots h
  have h2 := sizeT_len b.kind
  simp only [boxT, lotsT, List.length_append, List.length_cons, List.length_nil, bt_len]
  omega
theorem listB_len : ∀ (bs : List Bx), (∀ b ∈ bs, (boxT b).length ≤ 2000) → (listB bs).length ≤ 2000 * bs.length
  | [], _ => by simp [listB]
  | x :: r, h => by
    have h1 := h x List.mem_cons_self
    have h2 := listB_len r fun y hy => h y (List.mem_cons_of_mem _ hy)
    show (boxT x ++ listB r).length ≤ _
    rw [List.length_append, List.length_cons]
    omega
theorem listB_snoc {bs : List Bx} {k : Nat} (h : k < bs.length) : listB (bs.take (k + 1)) = listB (bs.take k) ++ boxT bs[k] := by
  rw [List.take_succ_eq_append_getElem h, listB, List.flatMap_append, ← listB]
  simp
set_option maxHeartbeats 4000000 in
/-- The digits of a number. -/
theorem refDigits_any (n : Int) (h0 : -9223372036854775808 ≤ n) (h1 : n ≤ 9223372036854775807) (w : World) : Calls Tryz.prog 80 #[.int .i64 n] w (Ret w (.string (txt (Lib.itoa n)))) := by
  by_cases hn : n < 0
  · have t1 : decide (n < 0) = true := decide_eq_true hn
    obtain ⟨u, hu⟩ : ∃ u : Nat, u = n.natAbs := ⟨_, rfl⟩
    have hnu : n = -(u : Int) := by omega
    have hu1 : 1 ≤ u := by omega
    have HU := Lib.hid (dec_len20 (u := u) (by omega))
    have HIT : Hid (Lib.itoa n = 45 :: Lib.decDigits u) := Lib.hid (by rw [Lib.itoa, if_pos hn, hu])
    have HS : Hid ((n : Int) = -(u : Int) ∧ 1 ≤ u ∧ u ≤ 9223372036854775808) := Lib.hid ⟨hnu, hu1, by omega⟩
    clear hn hnu hu1 hu h0 h1
    go_enter Tryz.func80, Tryz.ntmps80
    go_wp2_with fail
    clear t1
    go_loopw [0, 3] (fun z s wr => ∃ (y : Int) (m : Nat) (t : List UInt8), z = .int .i64 y ∧ y = -(m : Int) ∧ 1 ≤ m ∧ m ≤ 9223372036854775808 ∧ s = .string (txt t) ∧ Lib.decDigits u = Lib.decDigits m ++ t ∧ Below w.heap.size w wr) (fun z _ _ => (-(intOf z)).toNat)
    case atStart => exact ⟨n, u, [], rfl, HS.out.1, HS.out.2.1, HS.out.2.2, rfl, by simp, Below.refl _ _⟩
    case round =>
      obtain ⟨y, m, t, rfl, hy, hm1, hm2, rfl, hd, hbel⟩ := hrel
      have HBEL := Lib.hid hbel
      have HD := Lib.hid hd
      have HT20 : Hid (t.length ≤ 20) := Lib.hid (by have := congrArg List.length hd; rw [List.length_append] at this; have := HU.out; omega)
      obtain ⟨r, hr⟩ : ∃ r : Int, r = ((m % 10 : Nat) : Int) := ⟨_, rfl⟩
      have e2 : Int.tmod y 10 = -r := by rw [hy, Int.neg_tmod, hr]; rfl
      have er : (48 : Int) + r = ((dg m).toNat : Int) := by rw [dg_toNat, hr]; omega
      have HR := Lib.hid (show 0 ≤ r ∧ r ≤ 9 by omega)
      have hr9 := HR.out
      have eu : wrap64 (48 + r) = 48 + r := IntWalk.wrap64_in _ (by omega)
      have eu2 : (48 + r) % 256 = 48 + r := by omega
      have HCV := Lib.hid (fun W => conv_one (48 + r) (dg m) er.symm W)
      have z1 : (txt [dg m]).size = 1 := rfl
      have z2 : (txt t).size ≤ 20 := by rw [txt_size]; exact HT20.out
      by_cases hm : 10 ≤ m
      · have t2 : decide (y < -9) = true := decide_eq_true (by omega)
        obtain ⟨y', hy'⟩ : ∃ y' : Int, y' = -((m / 10 : Nat) : Int) := ⟨_, rfl⟩
        have e3 : Int.tdiv y 10 = y' := by rw [hy, Int.neg_tdiv, hy']; rfl
        have HE4 : Hid (wrap64 y' = y') := Lib.hid (IntWalk.wrap64_in _ (by omega))
        have hs1 : ¬ 9223372036854775807 < (txt [dg m]).size + (txt t).size := by omega
        have HNX : Hid (y' = -((m / 10 : Nat) : Int) ∧ 1 ≤ m / 10 ∧ m / 10 ≤ 9223372036854775808 ∧ Lib.decDigits u = Lib.decDigits (m / 10) ++ (dg m :: t) ∧ (-y').toNat < (-y).toNat) := Lib.hid ⟨hy', by omega, by omega, by rw [HD.out, dec_pre m, preD, if_neg (by omega), List.append_assoc]; rfl, by omega⟩
        clear hy hm1 hm2 hr er hm hy' z1 z2 hr9
        go_wp2_with fail
        rw [HCV.out]
        simp only [Result.andThen]
        rw [Oper.upon_value]
        go_wp2_with fail
        go_roundw
        case rel => exact ⟨y', m / 10, dg m :: t, congrArg (Value.int .i64) HE4.out, HNX.out.1, HNX.out.2.1, HNX.out.2.2.1, congrArg Value.string (txt_append [dg m] t), HNX.out.2.2.2.1, HBEL.out.trans ((one_below _ _).mono HBEL.out.size)⟩
        case measure =>
          show (-(wrap64 y')).toNat < (-y).toNat
          rw [HE4.out]
          exact HNX.out.2.2.2.2
      · have t2 : decide (y < -9) = false := decide_eq_false (by omega)
        have hs1 : ¬ 9223372036854775807 < (⟨#[45]⟩ : ByteArray).size + (txt [dg m]).size := by rw [z1]; decide
        have hs2 : ¬ 9223372036854775807 < (⟨#[45]⟩ ++ txt [dg m] : ByteArray).size + (txt t).size := by rw [ByteArray.size_append, z1, show (⟨#[45]⟩ : ByteArray).size = 1 from rfl]; omega
        have hs3 : ¬ 9223372036854775807 < (⟨#[45]⟩ : ByteArray).size + (txt [dg m]).size + (txt t).size := by rw [z1, show (⟨#[45]⟩ : ByteArray).size = 1 from rfl]; omega
        have HQ : Hid (txt (Lib.itoa n) = ⟨#[45]⟩ ++ txt [dg m] ++ txt t) := Lib.hid (by
          rw [show (⟨#[45]⟩ : ByteArray) = txt [45] from rfl, txt_append, txt_append, HIT.out, HD.out, dec_pre m, preD, if_pos (by omega)]
          rfl)
        clear hy hm1 hm2 hr er hm z1 z2 hr9
        go_wp2_with fail
        rw [HCV.out]
        simp only [Result.andThen]
        rw [Oper.upon_value]
        go_wp2_with fail
        go_ret
        exact ⟨by rw [HQ.out]; rfl, HBEL.out.trans ((one_below _ _).mono HBEL.out.size)⟩
  · have t1 : decide (n < 0) = false := decide_eq_false hn
    obtain ⟨u, rfl⟩ : ∃ u : Nat, n = (u : Int) := ⟨n.toNat, by omega⟩
    have hu : u ≤ 9223372036854775807 := by omega
    have HU := Lib.hid (dec_len20 (u := u) (by omega))
    have HIT : Hid (Lib.itoa (u : Int) = Lib.decDigits u) := Lib.hid (by rw [Lib.itoa, if_neg hn, Int.toNat_natCast])
    have e0 : Int.tmod (u : Int) 10 = (u : Int) % 10 := Int.tmod_eq_emod_of_nonneg (by omega)
    have HCV0 := Lib.hid (fun W => conv_one (48 + (u : Int) % 10) (dg u) (dg_int u) W)
    have HU9 := Lib.hid hu
    clear hn hu h0 h1
    go_enter Tryz.func80, Tryz.ntmps80
    go_wp2_with fail
    rw [HCV0.out]
    simp only [Result.andThen]
    rw [Oper.upon_value]
    go_wp2_with fail
    clear t1 e0
    go_loopw [0, 4] (fun z s wr => ∃ (m : Nat) (t : List UInt8), z = .int .i64 m ∧ m ≤ 9223372036854775807 ∧ s = .string (txt t) ∧ Lib.decDigits u = preD m ++ t ∧ Below w.heap.size w wr) (fun z _ _ => (intOf z).toNat)
    case atStart => exact ⟨u, [dg u], rfl, HU9.out, rfl, dec_pre u, one_below _ _⟩
    case round =>
      obtain ⟨m, t, rfl, hm2, rfl, hd, hbel⟩ := hrel
      have HBEL := Lib.hid hbel
      have HD := Lib.hid hd
      have hT20 : t.length ≤ 20 := by have := congrArg List.length hd; rw [List.length_append] at this; have := HU.out; omega
      clear hbel hd
      by_cases hm : 9 < m
      · obtain ⟨q, hq⟩ : ∃ q, q = m / 10 := ⟨_, rfl⟩
        have t2 : decide ((9 : Int) < (m : Int)) = true := decide_eq_true (by omega)
        have t2' : decide (9 < m) = true := decide_eq_true hm
        have e1 : Int.tdiv (m : Int) 10 = (q : Int) := by rw [hq]; rfl
        have eq : wrap64 ((q : Nat) : Int) = q := IntWalk.wrap64_in _ (by omega)
        have e2 : Int.tmod (q : Int) 10 = (q : Int) % 10 := Int.tmod_eq_emod_of_nonneg (by omega)
        have HCV := Lib.hid (fun W => conv_one (48 + (q : Int) % 10) (dg q) (dg_int q) W)
        have hs1 : ¬ 9223372036854775807 < (txt [dg q]).size + (txt t).size := by rw [txt_size, txt_size]; simp only [List.length_cons, List.length_nil]; omega
        have HNX : Hid (q ≤ 9223372036854775807 ∧ Lib.decDigits u = preD q ++ (dg q :: t) ∧ q < m) := Lib.hid ⟨by omega, by rw [HD.out, preD_step (by omega), ← hq, List.append_assoc]; rfl, by omega⟩
        clear hq hm2 hT20
        go_wp2_with fail
        rw [HCV.out]
        simp only [Result.andThen]
        rw [Oper.upon_value]
        go_wp2_with fail
        go_roundw
        case rel => exact ⟨q, dg q :: t, rfl, HNX.out.1, congrArg Value.string (txt_append [dg q] t), HNX.out.2.1, HBEL.out.trans ((one_below _ _).mono HBEL.out.size)⟩
        case measure =>
          have := HNX.out.2.2
          simp [intOf]
          omega
      · have t2 : decide ((9 : Int) < (m : Int)) = false := decide_eq_false (by omega)
        have t2' : decide (9 < m) = false := decide_eq_false hm
        have HQ : Hid (Lib.itoa (u : Int) = t) := Lib.hid (by rw [HIT.out, HD.out, preD, if_pos (by omega)]; rfl)
        clear hm2 hT20 hm
        go_wp2_with fail
        go_ret
        exact ⟨by rw [HQ.out]; rfl, HBEL.out⟩
theorem lot_txt (L : List UInt8) (xn : ByteArray) (c : Int) : txt L ++ ⟨#[32]⟩ ++ xn ++ ⟨#[58]⟩ ++ txt (Lib.itoa c) = txt (L ++ lotT ⟨xn, c⟩) := by
  conv => lhs; rw [← txt_bt xn]
  rw [show (⟨#[32]⟩ : ByteArray) = txt [32] from rfl, show (⟨#[58]⟩ : ByteArray) = txt [58] from rfl, txt_append, txt_append, txt_append, txt_append, lotT]
  simp
set_option maxHeartbeats 4000000 in
/-- Lots as they are listed. -/
theorem refLots_any (l : List Lt) (v : Value) (w : World) (hs : Sl w 2 v (l.map Lt.row)) (hl : l.length ≤ 300) (hsh : ∀ x ∈ l, x.short) : Calls Tryz.prog 50 #[v] w (Ret w (.string (txt (lotsT l)))) := by
  obtain ⟨a, c, rfl⟩ : ∃ a c, v = .slice a l.length c := by simpa using hs.shape
  have HS := Lib.hid (fun W (hW : Below w.heap.size w W) => hs.below hW (Nat.le_refl _))
  have HSH := Lib.hid hsh
  have HL := Lib.hid hl
  have hll : l.length ≤ 9223372036854775807 := by omega
  clear hs hsh hl
  go_enter Tryz.func50, Tryz.ntmps50
  go_wp2_with fail
  go_loopw [3, 4] (fun s i wr => ∃ (k : Nat) (T : ByteArray), k ≤ l.length ∧ i = .int .i64 k ∧ s = .string T ∧ T = txt (lotsB (l.take k)) ∧ Below w.heap.size w wr) (fun _ i _ => l.length - (intOf i).toNat)
  case atStart => exact ⟨0, _, Nat.zero_le _, rfl, rfl, rfl, Below.refl _ _⟩
  case round =>
    obtain ⟨k, T, hk, rfl, rfl, hT, hbel⟩ := hrel
    have HBEL := Lib.hid hbel
    have hTl := lotsB_len (l.take k) (fun x hx => HSH.out x (List.mem_of_mem_take hx))
    have hTs : T.size ≤ 30000 := by
      rw [hT, txt_size]
      have := HL.out
      rw [List.length_take] at hTl
      omega
    by_cases hlt : k < l.length
    rotate_left
    · have hs1 : ¬ 9223372036854775807 < T.size + (⟨#[10]⟩ : ByteArray).size := by rw [show (⟨#[10]⟩ : ByteArray).size = 1 from rfl]; omega
      have HQ : Hid (txt (lotsT l) = T ++ ⟨#[10]⟩) := Lib.hid (by rw [hT, List.take_of_length_le (by omega), show (⟨#[10]⟩ : ByteArray) = txt [10] from rfl, txt_append]; rfl)
      clear hT hbel hTl hTs
      go_wp2_with fail
      go_ret
      exact ⟨by rw [HQ.out]; rfl, HBEL.out⟩
    obtain ⟨b, off, rfl, -, -, -⟩ := (HS.out wr hbel).at (i := k) (by simpa using hlt)
    have hX : ∀ W, Below w.heap.size w W → W.cell? ⟨b, off + k * 2, none⟩ = some (.string l[k].good) ∧ W.cell? ⟨b, off + k * 2 + 1, none⟩ = some (.int .i64 l[k].cnt) := fun W hW => by
      obtain ⟨b1, o1, he, -, -, hc⟩ := (HS.out W hW).at (i := k) (by simpa using hlt)
      simp only [Option.some.injEq, Addr.mk.injEq, and_true] at he
      obtain ⟨rfl, rfl⟩ := he
      exact ⟨hc k l[k].row (by simp [hlt]) 0 _ rfl, hc k l[k].row (by simp [hlt]) 1 _ rfl⟩
    have HX := Lib.hid hX
    have hx := HSH.out l[k] (List.getElem_mem hlt)
    have hsn := lotsB_snoc hlt
    have tk : ((k : Nat) : Int) < (l.length : Int) := by omega
    generalize l[k] = x at *
    obtain ⟨xn, xc⟩ := x
    simp only at HX hx
    have HIT := Lib.hid (fun W (_ : Below wr.heap.size wr W) => refDigits_any xc hx.lo hx.hi W)
    have HNX : Hid (T ++ ⟨#[32]⟩ ++ xn ++ ⟨#[58]⟩ ++ txt (Lib.itoa xc) = txt (lotsB (l.take (k + 1)))) := Lib.hid (by rw [hT, lot_txt, hsn])
    have HSZ : Hid (T.size ≤ 30000 ∧ xn.size ≤ 60 ∧ (txt (Lib.itoa xc)).size ≤ 21) := Lib.hid ⟨hTs, hx.name, by rw [txt_size]; exact itoa_len20 hx.lo hx.hi⟩
    clear hT hTl hTs hX hx hsn hbel
    go_wp2_with fail
    refine Any.region_lit (fun
      | 0 => Any.val (.string (T))
      | 1 => Any.val (.string (T ++ ⟨#[32]⟩))
      | 2 => Any.val (.slice (some ⟨b, off, none⟩) l.length c)
      | 3 => Any.val (.int .i64 (k : Int))
      | 4 => Any.val (.pointer (some ⟨b, off + k * 2, none⟩))
      | 5 => Any.val (.pointer (some ⟨b, off + k * 2, none⟩))
      | 6 => Any.val (.string xn)
      | 7 => Any.val (.string (T ++ ⟨#[32]⟩ ++ xn))
      | 8 => Any.val (.string (T ++ ⟨#[32]⟩ ++ xn ++ ⟨#[58]⟩))
      | 9 => Any.val (.slice (some ⟨b, off, none⟩) l.length c)
      | 10 => Any.val (.int .i64 (k : Int))
      | 11 => Any.val (.pointer (some ⟨b, off + k * 2, none⟩))
      | 12 => Any.val (.pointer (some ⟨b, off + k * 2 + 1, none⟩))
      | 13 => Any.val (.int .i64 xc)
      | 14 => Any.val (.string (txt (Lib.itoa xc)))
      | 15 => Any.val (.string (T ++ ⟨#[32]⟩ ++ xn ++ ⟨#[58]⟩ ++ txt (Lib.itoa xc)))
      | 16 => Any.val (.string (T ++ ⟨#[32]⟩ ++ xn ++ ⟨#[58]⟩ ++ txt (Lib.itoa xc)))
      | _ => Any.idle) (by kernel_rfl) (by kernel_rfl) (by kernel_rfl) ?_ ?_ ?_
    · intro i _
      match i with
      | 0 => exact Any.lasts_val _
      | 1 => exact Any.lasts_val _
      | 2 => exact Any.lasts_val _
      | 3 => exact Any.lasts_val _
      | 4 => exact Any.lasts_val _
      | 5 => exact Any.lasts_val _
      | 6 => exact Any.lasts_val _
      | 7 => exact Any.lasts_val _
      | 8 => exact Any.lasts_val _
      | 9 => exact Any.lasts_val _
      | 10 => exact Any.lasts_val _
      | 11 => exact Any.lasts_val _
      | 12 => exact Any.lasts_val _
      | 13 => exact Any.lasts_val _
      | 14 => exact Any.lasts_val _
      | 15 => exact Any.lasts_val _
      | 16 => exact Any.lasts_val _
      | n + 17 => exact Any.lasts_idle
    · refine ⟨?_, ?_, ?_, ?_, ?_, ?_, ?_, ?_, ?_, ?_, ?_, ?_, ?_, ?_, ?_, ?_, ?_, trivial⟩
      · refine Any.owes_plain rfl fun ρ wo hs' hb hc' => ?_
        have h3 : ρ (.tmp 3) = .string (T) := hs'.old' 3 (by kernel_rfl)
        exact Any.ok_move (Any.post_val hb rfl h3)
      · refine Any.owes_plain rfl fun ρ wo hs' hb hc' => ?_
        have h11 : ρ (.tmp 11) = .string (T) := hs'.new' 11 0 (by kernel_rfl)
        exact Any.ok_add_str (h11) (hc' _) (by have := HSZ.out; have e1 : (⟨#[32]⟩ : ByteArray).size = 1 := rfl; have e2 : (⟨#[58]⟩ : ByteArray).size = 1 := rfl; (try simp only [ByteArray.size_append]); omega) (Any.post_val hb rfl rfl)
      · refine Any.owes_plain rfl fun ρ wo hs' hb hc' => ?_
        have h0 : ρ (.tmp 0) = .slice (some ⟨b, off, none⟩) l.length c := hs'.old' 0 (by kernel_rfl)
        exact Any.ok_move (Any.post_val hb rfl h0)
      · refine Any.owes_plain rfl fun ρ wo hs' hb hc' => ?_
        have h4 : ρ (.tmp 4) = .int .i64 (k : Int) := hs'.old' 4 (by kernel_rfl)
        exact Any.ok_move (Any.post_val hb rfl h4)
      · refine Any.owes_plain rfl fun ρ wo hs' hb hc' => ?_
        have h13 : ρ (.tmp 13) = .slice (some ⟨b, off, none⟩) l.length c := hs'.new' 13 2 (by kernel_rfl)
        have h14 : ρ (.tmp 14) = .int .i64 (k : Int) := hs'.new' 14 3 (by kernel_rfl)
        go_simp
        exact Any.post_val hb rfl rfl
      · refine Any.owes_plain rfl fun ρ wo hs' hb hc' => ?_
        have h15 : ρ (.tmp 15) = .pointer (some ⟨b, off + k * 2, none⟩) := hs'.new' 15 4 (by kernel_rfl)
        go_simp
        exact Any.post_val hb rfl rfl
      · refine Any.owes_plain rfl fun ρ wo hs' hb hc' => ?_
        have h16 : ρ (.tmp 16) = .pointer (some ⟨b, off + k * 2, none⟩) := hs'.new' 16 5 (by kernel_rfl)
        have c0 : wo.cell? ⟨b, off + k * 2, none⟩ = some (.string xn) := (HX.out wo (HBEL.out.trans ((below_undrew hb).mono HBEL.out.size))).1
        go_simp
        exact Any.post_val hb rfl rfl
      · refine Any.owes_plain rfl fun ρ wo hs' hb hc' => ?_
        have h12 : ρ (.tmp 12) = .string (T ++ ⟨#[32]⟩) := hs'.new' 12 1 (by kernel_rfl)
        have h17 : ρ (.tmp 17) = .string xn := hs'.new' 17 6 (by kernel_rfl)
        exact Any.ok_add_str (h12) (h17) (by have := HSZ.out; have e1 : (⟨#[32]⟩ : ByteArray).size = 1 := rfl; have e2 : (⟨#[58]⟩ : ByteArray).size = 1 := rfl; (try simp only [ByteArray.size_append]); omega) (Any.post_val hb rfl rfl)
      · refine Any.owes_plain rfl fun ρ wo hs' hb hc' => ?_
        have h18 : ρ (.tmp 18) = .string (T ++ ⟨#[32]⟩ ++ xn) := hs'.new' 18 7 (by kernel_rfl)
        exact Any.ok_add_str (h18) (hc' _) (by have := HSZ.out; have e1 : (⟨#[32]⟩ : ByteArray).size = 1 := rfl; have e2 : (⟨#[58]⟩ : ByteArray).size = 1 := rfl; (try simp only [ByteArray.size_append]); omega) (Any.post_val hb rfl rfl)
      · refine Any.owes_plain rfl fun ρ wo hs' hb hc' => ?_
        have h0 : ρ (.tmp 0) = .slice (some ⟨b, off, none⟩) l.length c := hs'.old' 0 (by kernel_rfl)
        exact Any.ok_move (Any.post_val hb rfl h0)
      · refine Any.owes_plain rfl fun ρ wo hs' hb hc' => ?_
        have h4 : ρ (.tmp 4) = .int .i64 (k : Int) := hs'.old' 4 (by kernel_rfl)
        exact Any.ok_move (Any.post_val hb rfl h4)
      · refine Any.owes_plain rfl fun ρ wo hs' hb hc' => ?_
        have h20 : ρ (.tmp 20) = .slice (some ⟨b, off, none⟩) l.length c := hs'.new' 20 9 (by kernel_rfl)
        have h21 : ρ (.tmp 21) = .int .i64 (k : Int) := hs'.new' 21 10 (by kernel_rfl)
        go_simp
        exact Any.post_val hb rfl rfl
      · refine Any.owes_plain rfl fun ρ wo hs' hb hc' => ?_
        have h22 : ρ (.tmp 22) = .pointer (some ⟨b, off + k * 2, none⟩) := hs'.new' 22 11 (by kernel_rfl)
        go_simp
        exact Any.post_val hb rfl rfl
      · refine Any.owes_plain rfl fun ρ wo hs' hb hc' => ?_
        have h23 : ρ (.tmp 23) = .pointer (some ⟨b, off + k * 2 + 1, none⟩) := hs'.new' 23 12 (by kernel_rfl)
        have c0 : wo.cell? ⟨b, off + k * 2 + 1, none⟩ = some (.int .i64 xc) := (HX.out wo (HBEL.out.trans ((below_undrew hb).mono HBEL.out.size))).2
        go_simp
        exact Any.post_val hb rfl rfl
      · refine Any.owes_plain rfl fun ρ wo hs' hb hc' => ?_
        have h24 : ρ (.tmp 24) = .int .i64 xc := hs'.new' 24 13 (by kernel_rfl)
        have hf := hs'.func 80
        go_simp
        exact (HIT.out wo (below_undrew hb)).mono fun e w' ⟨he, hb'⟩ => ⟨_, he, Any.post_vals hb rfl rfl hb'⟩
      · refine Any.owes_plain rfl fun ρ wo hs' hb hc' => ?_
        have h19 : ρ (.tmp 19) = .string (T ++ ⟨#[32]⟩ ++ xn ++ ⟨#[58]⟩) := hs'.new' 19 8 (by kernel_rfl)
        have h25 : ρ (.tmp 25) = .string (txt (Lib.itoa xc)) := hs'.new' 25 14 (by kernel_rfl)
        exact Any.ok_add_str (h19) (h25) (by have := HSZ.out; have e1 : (⟨#[32]⟩ : ByteArray).size = 1 := rfl; have e2 : (⟨#[58]⟩ : ByteArray).size = 1 := rfl; (try simp only [ByteArray.size_append]); omega) (Any.post_val hb rfl rfl)
      · refine Any.owes_plain rfl fun ρ wo hs' hb hc' => ?_
        have h26 : ρ (.tmp 26) = .string (T ++ ⟨#[32]⟩ ++ xn ++ ⟨#[58]⟩ ++ txt (Lib.itoa xc)) := hs'.new' 26 15 (by kernel_rfl)
        go_simp
        exact Any.post_val hb rfl rfl
    intro vals w6 hb hk ha
    have h16 : vals 16 = .string (T ++ ⟨#[32]⟩ ++ xn ++ ⟨#[58]⟩ ++ txt (Lib.itoa xc)) := hk 16 (by kernel_rfl)
    have HB6 := Lib.hid (HBEL.out.trans (hb.mono HBEL.out.size))
    clear hk ha hb
    simp only [Any.putAll]
    go_frame
    simp only [Nat.zero_add, Nat.reduceAdd]
    rw [h16]
    clear h16
    go_wp2_with fail
    go_roundw
    case rel => exact ⟨k + 1, _, by omega, by go_num, rfl, HNX.out, HB6.out⟩
    case measure => (simp [intOf]) <;> omega
end Go.Proofs.YtgnfdplphpejaaaGreatDoor.Sc
