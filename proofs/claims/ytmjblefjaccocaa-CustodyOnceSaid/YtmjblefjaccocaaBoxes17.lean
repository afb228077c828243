/- The program's Boxes. -/
import Derived.Test.YtmjblefjaccocaaIter17
namespace Go.Proofs.Ytmjblefjaccocaa.Sc
open Go Go.RowKit Go.ChangeShapes Go.WideShapes Go.ChangeAt Mp Go.Sort

theorem enc_bt (l : List ByteArray) : (l.map bt).map encStr = strCells l := by
  simp only [strCells, List.map_map]
  refine List.map_congr_left fun s _ => ?_
  simp [bt]

theorem boxes_any (p : Value) (done : List Hd) (F : Nat → Prop) (w : World) (hc : Chain w F p done) (hlen : done.length ≤ 4000) (hfit : ∀ h ∈ done, h.fit) :
    Calls Try.prog 20 #[p] w (RetRow w 9 1 (boxesS done).length (strCells (boxesS done))) := by
  obtain ⟨bp, bm, l, rfl, hch⟩ := hc
  have hkeys : ∀ k, k ∈ mkeys l ↔ k ∈ boxesS done := by
    intro k
    rw [mem_boxesS]
    constructor
    · intro hk
      obtain ⟨q, hq, rfl⟩ := List.mem_map.1 hk
      have h1 := (hch.hist q.1 q.2 hq).2.1
      obtain ⟨h, hh⟩ := List.exists_mem_of_length_pos h1
      obtain ⟨h2, h3⟩ := List.mem_filter.1 hh
      exact ⟨h, h2, by simpa using h3⟩
    · rintro ⟨h, h1, rfl⟩
      exact hch.all h.box (List.ne_nil_of_mem (List.mem_filter.2 ⟨h1, by simp⟩))
  obtain ⟨nn, D0, ho, hsz, hpm⟩ := kit_map hch.map (fun k hk => by
    obtain ⟨h, h1, rfl⟩ := (mem_boxesS done).1 ((hkeys k).1 hk)
    exact (hfit h h1).1) (by have := hch.few; simp only [maxLen]; omega)
  have hmax : Maps.size D0 ≤ maxLen := by rw [hsz]; have := hch.few; simp only [maxLen]; omega
  have hby : Maps.size D0 * 16 ≤ 140737488355328 := by rw [hsz]; have := hch.few; omega
  have HO := Lib.hid ho
  have HM := Lib.hid hmax
  have HB := Lib.hid hby
  have HP := Lib.hid hpm
  have HK := Lib.hid hkeys
  have HND := Lib.hid hch.map.nodup
  have c0 := cell_blk hch.ptr 0
  simp only [List.getElem?_toArray, List.getElem?_cons_zero] at c0
  clear ho hmax hby hpm hkeys hch hlen hfit hsz
  go_enter Try.func20, Try.ntmps20
  go_wp2_with (first
    | ((with_reducible refine ((callsIn_wide (n := 5)).1 (Try.maps_Keys_33 (some bm) w)).mono ?_); rintro e w1 ⟨rfl, rfl⟩)
    | ((with_reducible refine ((callsIn_wide (n := 5)).1 (Try.slices_Sorted_keys_32_33 bm nn D0 _ w HO.out HM.out HB.out)).mono ?_); rintro e w2 ⟨v, ss, rfl, hS, hrow, hnil, hb⟩)
    | fail)
  go_ret
  rw [sorted_boxes (hS.trans HP.out) HND.out (boxesS_rising done) HK.out, enc_bt] at hrow
  have hl : ss.length = (boxesS done).length := by
    have h1 := (hS.trans HP.out).length_eq
    have h2 := ((List.perm_ext_iff_of_nodup HND.out (rising_nodup (boxesS_rising done))).2 HK.out).length_eq
    rw [h1, List.length_map, h2]
  rw [hl] at hrow
  exact retRow hrow (by simp) ((one_below w _).trans (hb.mono (by simp)))
end Go.Proofs.Ytmjblefjaccocaa.Sc
