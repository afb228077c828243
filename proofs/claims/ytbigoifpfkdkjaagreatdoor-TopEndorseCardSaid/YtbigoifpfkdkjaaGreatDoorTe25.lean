/- The register takes its one bill in (Issue). The register takes its one bill in: what its checks ask. -/
import Derived.Test.YtbigoifpfkdkjaaGreatDoorTe15
import Derived.Test.YtbigoifpfkdkjaaGreatDoorTe24
import Derived.Deep.MidRow
namespace Go.Proofs.YtbigoifpfkdkjaaGreatDoor.Sc
open Go Go.RowKit Go.ChangeShapes Go.WideShapes Go.ChangeAt
set_option maxRecDepth 100000

theorem any_nextI {α : Type} {l : List α} {k : Nat} (h : k < l.length) (f : α → Bool) : (l.drop k).any f = (f l[k] || (l.drop (k + 1)).any f) := by rw [List.drop_eq_getElem_cons h, List.any_cons]
def IdxQ (w : World) (b : Bool) (e : Ending) (w' : World) : Prop := ∃ i : Int, e = .returned (.int .i64 i) ∧ decide (0 ≤ i) = b ∧ Below w.heap.size w w'
set_option maxHeartbeats 4000000 in
theorem indexSt {f : ByteArray → Bool} (g : Nat) (cb : Array Value) (l : List ByteArray) (v : Value) (w : World) (hs : Sl w 1 v (l.map fun x => [.string x])) (eg : ∀ args w, (callFunc g args).run Tryz.prog w = .ok (.enter g args) w)
    (hcl : ∀ W x, x ∈ l → Below w.heap.size w W → Calls Tryz.prog g (#[.string x] ++ cb) W (RetB W (f x))) :
    Calls Tryz.prog 125 #[v, .func (.func g) #[] cb] w (IdxQ w (l.any f)) := by
  obtain ⟨a, c, rfl⟩ : ∃ a c, v = .slice a l.length c := by simpa using hs.shape
  have hll : l.length ≤ 9223372036854775807 := by have := hs.len_le; simp only [List.length_map, maxLen] at this; omega
  have HS := Lib.hid hs
  have HCL := Lib.hid hcl
  clear hs hcl
  go_enter Tryz.func125, Tryz.ntmps125
  go_wp2_with fail
  go_loopw [5, 8] (fun _ i wr => ∃ k : Nat, k ≤ l.length ∧ i = .int .i64 k ∧ l.any f = (l.drop k).any f ∧ Below w.heap.size w wr) (fun _ i _ => l.length - (intOf i).toNat)
  case atStart => exact ⟨0, Nat.zero_le _, rfl, rfl, Below.refl _ _⟩
  case round =>
    obtain ⟨k, hk, rfl, hrel, hbel⟩ := hrel
    have HBEL := Lib.hid hbel
    by_cases hlt : k < l.length
    · obtain ⟨b, off, rfl, -, hb, hc⟩ := HS.out.at (i := k) (by simpa using hlt)
      have d0 := (hbel.cell (p := ⟨b, off + k * 1, none⟩) hb).trans (hc k [(fun x : ByteArray => .string x) l[k]] (by simp [hlt]) 0 _ rfl)
      rw [Nat.mul_one] at d0
      rw [any_nextI hlt] at hrel
      have HC := Lib.hid (HCL.out wr l[k] (List.getElem_mem hlt) hbel)
      have tk : ((k : Nat) : Int) < (l.length : Int) := by omega
      generalize l[k] = x at *
      simp only at d0
      clear hb hc hbel
      generalize hr : f x = r at *
      clear hr
      cases r
      · have HR := Lib.hid hrel
        clear hrel
        go_wp2_with (first
          | (go_at_fn g; refine HC.out.mono ?_; rintro e w2 ⟨rfl, hb2⟩; have HB2 := Lib.hid (HBEL.out.trans (hb2.mono HBEL.out.size)); clear hb2)
          | fail)
        go_roundw
        case rel => exact ⟨k + 1, by omega, by go_num, by rw [HR.out]; rfl, HB2.out⟩
        case measure => (simp [intOf]) <;> omega
      · have HR := Lib.hid hrel
        clear hrel
        go_wp2_with (first
          | (go_at_fn g; refine HC.out.mono ?_; rintro e w2 ⟨rfl, hb2⟩; have HB2 := Lib.hid (HBEL.out.trans (hb2.mono HBEL.out.size)); clear hb2)
          | fail)
        go_ret
        exact ⟨k, rfl, by rw [HR.out]; simp, HB2.out⟩
    · have HE : Hid (l.any f = false) := Lib.hid (by rw [hrel, List.drop_of_length_le (by omega)]; rfl)
      clear hrel hbel hk
      go_wp2_with fail
      go_ret
      exact ⟨-1, rfl, by rw [HE.out]; rfl, HBEL.out⟩
theorem containsSt {f : ByteArray → Bool} (g : Nat) (cb : Array Value) (l : List ByteArray) (v : Value) (w : World) (hs : Sl w 1 v (l.map fun x => [.string x])) (eg : ∀ args w, (callFunc g args).run Tryz.prog w = .ok (.enter g args) w)
    (hcl : ∀ W x, x ∈ l → Below w.heap.size w W → Calls Tryz.prog g (#[.string x] ++ cb) W (RetB W (f x))) :
    Calls Tryz.prog 66 #[v, .func (.func g) #[] cb] w (RetB w (l.any f)) := by
  have HI := Lib.hid (indexSt g cb l v w hs eg hcl)
  obtain ⟨a, c, rfl⟩ : ∃ a c, v = .slice a l.length c := by simpa using hs.shape
  clear hs hcl eg
  go_enter Tryz.func66, Tryz.ntmps66
  go_wp2_with (first
    | ((with_reducible refine HI.out.mono ?_); rintro e w2 ⟨i, rfl, hi, hb2⟩; have HB2 := Lib.hid hb2; have HQ := Lib.hid hi; clear hb2 hi)
    | fail)
  go_ret
  exact ⟨by rw [← HQ.out]; rfl, HB2.out⟩def lineB : ByteArray := ⟨#[108, 105, 110, 101]⟩
def billC (vb : Value) : Array Value := #[.string ⟨#[98, 49]⟩, .string ⟨#[108, 105, 110, 101]⟩, .string ⟨#[115]⟩, .string ⟨#[114, 105, 103, 97]⟩, .string ⟨#[111, 115, 108, 111]⟩, vb, .slice none 0 0, .int .i64 0, .bool false]
def billD (vb vp : Value) : Array Value := #[.string ⟨#[98, 49]⟩, .string ⟨#[108, 105, 110, 101]⟩, .string ⟨#[115]⟩, .string ⟨#[114, 105, 103, 97]⟩, .string ⟨#[111, 115, 108, 111]⟩, vb, vp, .int .i64 0, .bool false]
theorem nm_b1 : nameOk ⟨#[98, 49]⟩ = true := by decide +kernel
theorem nm_s : nameOk ⟨#[115]⟩ = true := by decide +kernel
theorem nm_riga : nameOk ⟨#[114, 105, 103, 97]⟩ = true := by decide +kernel
theorem nm_oslo : nameOk ⟨#[111, 115, 108, 111]⟩ = true := by decide +kernel
theorem mayS_any (s : ByteArray) (w : World) : Calls Tryz.prog 124 #[.string s] w (RetB w (!nameOk s)) := by
  have HN := Lib.hid (fun W => markName_any s W)
  generalize nameOk s = q at *
  cases q
  all_goals
    go_enter Tryz.func124, Tryz.ntmps124
    go_wp2_with (first
      | ((with_reducible refine (HN.out _).mono ?_); rintro en w1 ⟨rfl, hb1⟩)
      | fail)
    go_ret
    exact retB rfl hb1
theorem one_str {w : World} {g : Nat} {m : ByteArray} {vb : Value} {B : Nat} (h : w.ownsRow B 9 1 vb 1 [.string m]) : ∃ g cap, vb = .slice (some ⟨g, 0, none⟩) 1 cap ∧ w.cell? ⟨g, 0, none⟩ = some (.string m) := by
  have _ := g
  obtain ⟨h1, h2⟩ := h
  rcases h2 with ⟨_, h0⟩ | ⟨g, cap, cur, rfl, hB, hh, h3, h4, h5, h6⟩
  · cases h0
  · refine ⟨g, cap, rfl, ?_⟩
    rw [cell_blk hh]
    have h7 : (cur.toList.take (1 * 1))[0]? = some (.string m) := by rw [h6]; rfl
    rw [List.getElem?_take, if_pos (by decide)] at h7
    simpa using h7
theorem zeroBool4 (w : World) : (zeroValue 4).run Tryz.prog w = .ok (.bool false) w := by kernel_rfl
set_option maxHeartbeats 4000000 in
theorem mayB_any (br bm g : Nat) (m : ByteArray) (w : World) (hr : Rg0 w br bm lineB) (hc : w.cell? ⟨g, 0, none⟩ = some (.string m)) (hg : g < w.heap.size) (hsl : Sl w 1 (.slice none 0 0) (([] : List ByteArray).map fun x => [.string x])) (hm : markOk (bt m) = true) (ht : TabW w) :
    Calls Tryz.prog 63 #[.pointer (some ⟨br, 0, none⟩), .agg (billC (.slice (some ⟨g, 0, none⟩) 1 1))] w (RetB w true) := by
  have N1 := Lib.hid (fun W => markName_any ⟨#[98, 49]⟩ W)
  have N2 := Lib.hid (fun W => markName_any ⟨#[115]⟩ W)
  have N3 := Lib.hid (fun W => markName_any ⟨#[114, 105, 103, 97]⟩ W)
  have N4 := Lib.hid (fun W => markName_any ⟨#[111, 115, 108, 111]⟩ W)
  rw [nm_b1] at N1
  rw [nm_s] at N2
  rw [nm_riga] at N3
  rw [nm_oslo] at N4
  have HDY : Hid (∀ W, Calls Tryz.prog 123 #[.int .i64 0] W (RetB W true)) := Lib.hid (fun W => isDay_any 0 W)
  have HMR := Lib.hid (fun W (hW : Below w.heap.size w W) => mkRight_any m W (ht.below hW))
  rw [hm] at HMR
  have eg : ∀ args w, (callFunc 124 args).run Tryz.prog w = .ok (.enter 124 args) w := enters_of Tryz.func124 (by kernel_rfl) rfl
  have HCF := Lib.hid (fun W (hW : Below w.heap.size w W) => containsSt (f := fun s => !nameOk s) 124 #[] [] (.slice none 0 0) W (hsl.below hW (Nat.le_refl _)) eg (fun W' x hx _ => by cases hx))
  simp only [List.any_nil] at HCF
  have HX := Lib.hid (heap_alloc_new w (.cells (billC (.slice (some ⟨g, 0, none⟩) 1 1)) 57))
  have HB := Lib.hid (one_below w (.cells (billC (.slice (some ⟨g, 0, none⟩) 1 1)) 57))
  have HCG : Hid (∀ W, Below w.heap.size w W → W.cell? ⟨g, 0, none⟩ = some (.string m)) := Lib.hid fun W hW => (hW.cell (p := ⟨g, 0, none⟩) hg).trans hc
  have HR := Lib.hid (fun W (hW : Below w.heap.size w W) => hr.below hW)
  unfold billC at HX HB ⊢
  have tm : ∀ W : World, (Instr.makeMap 94 (some (.int .i64 1))).run Tryz.prog W = .ok (.map (some W.heap.size)) (W.alloc (.map #[] 0)) := fun W => by
    simp [Instr.makeMap, run_underlying Tryz.underlying94, asInt, asIntOf, Result.andThen]
  clear hr hc hg hsl hm ht eg
  go_enter Tryz.func63, Tryz.ntmps63
  go_upto_region 3 with (first
    | ((with_reducible refine (N1.out _).mono ?_); rintro en w1 ⟨rfl, hb1⟩; have HB := Lib.hid (HB.out.trans (hb1.mono HB.out.size)); have HX := Lib.hid (blk hb1 (lt_blk HX.out) HX.out); have c2 := cell_blk HX.out 2; clear hb1)
    | ((with_reducible refine (N2.out _).mono ?_); rintro en w2 ⟨rfl, hb1⟩; have HB := Lib.hid (HB.out.trans (hb1.mono HB.out.size)); have HX := Lib.hid (blk hb1 (lt_blk HX.out) HX.out); have c3 := cell_blk HX.out 3; clear hb1)
    | ((with_reducible refine (N3.out _).mono ?_); rintro en w3 ⟨rfl, hb1⟩; have HB := Lib.hid (HB.out.trans (hb1.mono HB.out.size)); have HX := Lib.hid (blk hb1 (lt_blk HX.out) HX.out); have c4 := cell_blk HX.out 4; clear hb1)
    | ((with_reducible refine (N4.out _).mono ?_); rintro en w4 ⟨rfl, hb4⟩; have HB4 := Lib.hid (HB.out.trans (hb4.mono HB.out.size)); have HX4 := Lib.hid (blk hb4 (lt_blk HX.out) HX.out); clear hb4)
    | fail)
  refine Any.region_lit (fun
    | 0 => Any.val (.pointer (some ⟨w.heap.size, 1, none⟩))
    | 1 => Any.val (.string ⟨#[108, 105, 110, 101]⟩)
    | 2 => Any.val (.pointer (some ⟨br, 0, none⟩))
    | 3 => Any.val (.pointer (some ⟨br, 0, none⟩))
    | 4 => Any.val (.pointer (some ⟨br, 0, none⟩))
    | 5 => Any.val (.string ⟨#[108, 105, 110, 101]⟩)
    | 6 => Any.val (.bool false)
    | 7 => Any.val (.bool false)
    | 8 => Any.val (.pointer (some ⟨w.heap.size, 7, none⟩))
    | 9 => Any.val (.int .i64 0)
    | 10 => Any.val (.bool true)
    | 11 => Any.val (.bool false)
    | 12 => Any.val (.bool false)
    | _ => Any.idle) (by kernel_rfl) (by kernel_rfl) (by kernel_rfl) ?_ ?_ ?_
  · intro i _
    match i with
    | 0 => exact Any.lasts_val _
    | 1 => exact Any.lasts_val _
    | 2 => exact Any.lasts_val _
    | 3 => exact Any.lasts_val _
    | 4 => exact Any.lasts_val _
    | 5 => exact Any.lasts_val _
    | 6 => exact Any.lasts_val _
    | 7 => exact Any.lasts_val _
    | 8 => exact Any.lasts_val _
    | 9 => exact Any.lasts_val _
    | 10 => exact Any.lasts_val _
    | 11 => exact Any.lasts_val _
    | 12 => exact Any.lasts_val _
    | n + 13 => exact Any.lasts_idle
  · refine ⟨?_, ?_, ?_, ?_, ?_, ?_, ?_, ?_, ?_, ?_, ?_, ?_, ?_, trivial⟩
    · refine Any.owes_plain rfl fun ρ wo hs' hb hc' => ?_
      have h3 : ρ (.tmp 3) = .pointer (some ⟨w.heap.size, 0, none⟩) := hs'.old' 3 (by kernel_rfl)
      go_simp
      exact Any.post_val hb rfl rfl
    · refine Any.owes_plain rfl fun ρ wo hs' hb hc' => ?_
      have h30 : ρ (.tmp 30) = .pointer (some ⟨w.heap.size, 1, none⟩) := hs'.new' 30 0 (by kernel_rfl)
      have c0 : wo.cell? ⟨w.heap.size, 1, none⟩ = some (.string ⟨#[108, 105, 110, 101]⟩) := cell_blk (blk (below_undrew hb) (lt_blk HX4.out) HX4.out) 1
      go_simp
      exact Any.post_val hb rfl rfl
    · refine Any.owes_plain rfl fun ρ wo hs' hb hc' => ?_
      have h0 : ρ (.tmp 0) = .pointer (some ⟨br, 0, none⟩) := hs'.old' 0 (by kernel_rfl)
      exact Any.ok_move (Any.post_val hb rfl h0)
    · refine Any.owes_plain rfl fun ρ wo hs' hb hc' => ?_
      have h32 : ρ (.tmp 32) = .pointer (some ⟨br, 0, none⟩) := hs'.new' 32 2 (by kernel_rfl)
      go_simp
      exact Any.post_val hb rfl rfl
    · refine Any.owes_plain rfl fun ρ wo hs' hb hc' => ?_
      have h33 : ρ (.tmp 33) = .pointer (some ⟨br, 0, none⟩) := hs'.new' 33 3 (by kernel_rfl)
      go_simp
      exact Any.post_val hb rfl rfl
    · refine Any.owes_plain rfl fun ρ wo hs' hb hc' => ?_
      have h34 : ρ (.tmp 34) = .pointer (some ⟨br, 0, none⟩) := hs'.new' 34 4 (by kernel_rfl)
      have c0 : wo.cell? ⟨br, 0, none⟩ = some (.string ⟨#[108, 105, 110, 101]⟩) := cell_blk (HR.out _ (HB4.out.trans ((below_undrew hb).mono HB4.out.size))).rb 0
      go_simp
      exact Any.post_val hb rfl rfl
    · refine Any.owes_plain rfl fun ρ wo hs' hb hc' => ?_
      have h31 : ρ (.tmp 31) = .string ⟨#[108, 105, 110, 101]⟩ := hs'.new' 31 1 (by kernel_rfl)
      have h35 : ρ (.tmp 35) = .string ⟨#[108, 105, 110, 101]⟩ := hs'.new' 35 5 (by kernel_rfl)
      go_simp
      exact Any.post_val hb rfl rfl
    · refine Any.owes_plain rfl fun ρ wo hs' hb hc' => ?_
      have h36 : ρ (.tmp 36) = .bool false := hs'.new' 36 6 (by kernel_rfl)
      exact Any.ok_move (Any.post_val hb rfl h36)
    · refine Any.owes_on rfl rfl (by kernel_rfl) rfl fun ρ wo hs' hb hc' => ?_
      have h3 : ρ (.tmp 3) = .pointer (some ⟨w.heap.size, 0, none⟩) := hs'.old' 3 (by kernel_rfl)
      go_simp
      exact Any.post_val hb rfl rfl
    · refine Any.owes_on rfl rfl (by kernel_rfl) rfl fun ρ wo hs' hb hc' => ?_
      have h38 : ρ (.tmp 38) = .pointer (some ⟨w.heap.size, 7, none⟩) := hs'.new' 38 8 (by kernel_rfl)
      have c0 : wo.cell? ⟨w.heap.size, 7, none⟩ = some (.int .i64 0) := cell_blk (blk (below_undrew hb) (lt_blk HX4.out) HX4.out) 7
      go_simp
      exact Any.post_val hb rfl rfl
    · refine Any.owes_on rfl rfl (by kernel_rfl) rfl fun ρ wo hs' hb hc' => ?_
      have h39 : ρ (.tmp 39) = .int .i64 0 := hs'.new' 39 9 (by kernel_rfl)
      have hf := hs'.func 123
      go_simp
      exact (HDY.out wo).mono fun e w' ⟨he, hb'⟩ => ⟨_, he, Any.post_vals hb rfl rfl hb'⟩
    · refine Any.owes_on rfl rfl (by kernel_rfl) rfl fun ρ wo hs' hb hc' => ?_
      have h40 : ρ (.tmp 40) = .bool true := hs'.new' 40 10 (by kernel_rfl)
      go_simp
      exact Any.post_val hb rfl rfl
    · refine Any.owes_plain rfl fun ρ wo hs' hb hc' => ?_
      have h37 : ρ (.tmp 37) = .bool false := hs'.new' 37 7 (by kernel_rfl)
      have h41 : ρ (.tmp 41) = .bool false := hs'.new' 41 11 (by kernel_rfl)
      go_simp
      exact Any.post_val hb rfl rfl
  intro vals w5 hb hk ha
  have h12 : vals 12 = .bool false := hk 12 (by kernel_rfl)
  have HB5 := Lib.hid (HB4.out.trans (hb.mono HB4.out.size))
  have HX5 := Lib.hid (blk hb (lt_blk HX4.out) HX4.out)
  clear hk ha hb
  simp only [Any.putAll]
  go_frame
  simp only [Nat.zero_add, Nat.reduceAdd]
  rw [h12]
  clear h12
  have HX5 := HX5
  have c5 := cell_blk HX5.out 5
  have c6 := cell_blk HX5.out 6
  go_upto_region 8 with fail
  have HM6 : Hid (Mp.MapAt (w5.alloc (.map #[] 0)) w5.heap.size []) := Lib.hid (Mp.MapAt.made w5)
  have HB6 : Hid (Below w5.heap.size w5 (w5.alloc (.map #[] 0))) := Lib.hid (one_below w5 _)
  generalize w5.alloc (.map #[] 0) = w6 at *
  clear c5 c6 tm N1 N2 N3 N4
  have c5 := cell_blk (blk HB6.out (lt_blk HX5.out) HX5.out) 5
  go_wp2_with fail
  clear c5
  go_loopw [7, 66] (fun _ i wr => ∃ k : Nat, k ≤ 1 ∧ i = .int .i64 k ∧ Mp.MapAt wr w5.heap.size (if k = 0 then [] else [(m, .bool true)]) ∧ Below w5.heap.size w5 wr) (fun _ i _ => 1 - (intOf i).toNat)
  case atStart => exact ⟨0, by decide, rfl, HM6.out, HB6.out⟩
  case round =>
    obtain ⟨k, hk, rfl, hm, hbel⟩ := hrel
    have HBEL := Lib.hid hbel
    have HBW := Lib.hid (HB5.out.trans (hbel.mono HB5.out.size))
    have HMP := Lib.hid hm
    clear hm hbel
    obtain rfl | rfl : k = 0 ∨ k = 1 := by omega
    · have g0 := HCG.out wr HBW.out
      have hz : ∀ W : World, Mp.look false (Mp.mget [] m) (.bool false) = .bool false := fun _ => rfl
      have hp : Mp.mput [] m (.bool true) = [(m, .bool true)] := rfl
      have HPUT := Lib.hid hp
      have HM0 : Hid (Mp.MapAt wr w5.heap.size []) := Lib.hid HMP.out
      clear hp
      go_wp2_with (first
        | ((with_reducible refine (HMR.out _ HBW.out).mono ?_); rintro en w7 ⟨rfl, hb7⟩; have HM7 := Lib.hid (HM0.out.same (hb7.block _ HM0.out.lt)); have HB7 := Lib.hid (HBEL.out.trans (hb7.mono HBEL.out.size)); clear hb7)
        | ((with_reducible refine Mp.wpl_lookup (b := w5.heap.size) (l := []) (key := m) ?_ ?_ ?_ Tryz.underlying94 Tryz.underlying9 (zeroBool4 _) HM7.out ?_); rfl; rfl; rfl; rw [hz w7])
        | ((with_reducible refine Mp.wpl_update (b := w5.heap.size) (l := []) (key := m) (v := .bool true) ?_ ?_ ?_ ?_ Tryz.underlying94 Tryz.underlying9 HM7.out ?_); rfl; rfl; rfl; rfl; intro w8 hm8 hg8 hz8; rw [HPUT.out] at hm8; have HM8 := Lib.hid hm8; have HG8 := Lib.hid hg8; clear hm8 hg8 hz8)
        | fail)
      go_roundw
      case rel => exact ⟨1, by decide, rfl, HM8.out, HB7.out.grown HG8.out HB7.out.size (fun j hj => Nat.le_of_eq (Option.some.inj hj))⟩
      case measure => simp [intOf]
    · have c6 := cell_blk (blk HBEL.out (lt_blk HX5.out) HX5.out) 6
      go_wp2_with (first
        | ((with_reducible refine (HCF.out _ HBW.out).mono ?_); rintro en w9 ⟨rfl, hb9⟩; have HB9 := Lib.hid (HBW.out.trans (hb9.mono HBW.out.size)); clear hb9)
        | fail)
      go_ret
      exact retB rfl HB9.out
end Go.Proofs.YtbigoifpfkdkjaaGreatDoor.Sc
namespace Go.Proofs.YtbigoifpfkdkjaaGreatDoor.Sc
open Go Go.RowKit Go.ChangeShapes Go.WideShapes Go.ChangeAt
set_option maxRecDepth 100000

set_option maxHeartbeats 4000000 in
theorem numbers0_any (br bm g : Nat) (cb : Array Value) (w : World) (hr : Rg0 w br bm lineB) : Calls Tryz.prog 126 #[.pointer (some ⟨br, 0, none⟩), .func (.func g) #[] cb] w (Ret w (.slice none 0 0)) := by
  have c1 : w.cell? ⟨br, 1, none⟩ = some (.map (some bm)) := cell_blk hr.rb 1
  have HM := Lib.hid hr.mp
  clear hr
  go_enter Tryz.func126, Tryz.ntmps126
  go_wp2_with (first
    | ((with_reducible refine Mp.wpl_range (b := bm) (l := []) ?_ ?_ Tryz.underlying133 HM.out ?_); rfl; rfl; intro w1 hit ha; have HIT := Lib.hid hit; have HB1 : Hid (Below w.heap.size w w1) := Lib.hid (by obtain ⟨o, rfl⟩ := ha; exact one_below _ _); clear hit ha; go_frame)
    | fail)
  obtain ⟨r, hr⟩ : ∃ r, r = w.heap.size := ⟨_, rfl⟩
  rw [← hr] at HIT ⊢
  clear hr c1
  go_loopw [5, 6, 7] (fun o _ _ wr => o = .slice none 0 0 ∧ Mp.IterAt wr r bm [] [] ∧ Below w.heap.size w wr) (fun _ _ _ _ => 0)
  case atStart => exact ⟨rfl, HIT.out, HB1.out⟩
  case round =>
    obtain ⟨rfl, hit, hbel⟩ := hrel
    have HIT2 := Lib.hid hit
    have HBEL := Lib.hid hbel
    clear hit hbel
    have HSO := Lib.hid (fun W => Tryz.slices_Sort_string_none none 0 W)
    go_wp2_with (first
      | ((with_reducible refine Mp.wpl_next ?_ ?_ HIT2.out ?_ ?_); rfl; rfl)
      | ((with_reducible refine (HSO.out _).mono ?_); rintro e w3 ⟨rfl, hw3⟩; have HW3 := Lib.hid hw3; clear hw3)
      | fail)
    · go_ret
      exact ⟨rfl, by rw [HW3.out]; exact HBEL.out⟩
    · intro key sv wc hmem
      cases hmem
theorem box0_any (br bm : Nat) (s : ByteArray) (w : World) (hr : Rg0 w br bm lineB) : Calls Tryz.prog 68 #[.pointer (some ⟨br, 0, none⟩), .string s] w (Ret w (.tuple #[.string ⟨#[]⟩, .bool false])) := by
  have HB := Lib.hid (one_below w (.cells #[.string s] 9))
  have HN := Lib.hid (fun cb => numbers0_any br bm 127 cb _ (hr.below HB.out))
  clear hr
  go_enter Tryz.func68, Tryz.ntmps68
  go_wp2_with (first
    | ((with_reducible refine (HN.out _).mono ?_); rintro e w1 ⟨rfl, hb1⟩; have HB1 := Lib.hid (HB.out.trans (hb1.mono HB.out.size)); clear hb1)
    | fail)
  go_ret2
  exact ⟨rfl, HB1.out⟩
/-- What the checks see: the register, the bill, who is to hold it. -/
structure IsAt (w : World) (br bm pr pb ph g : Nat) (m : ByteArray) : Prop where
  rg : Rg0 w br bm lineB
  pr : w.heap[pr]? = some (.cells #[.pointer (some ⟨br, 0, none⟩)] 50 (0, 0))
  pb : w.heap[pb]? = some (.cells (billC (.slice (some ⟨g, 0, none⟩) 1 1)) 57 (0, 0))
  ph : w.heap[ph]? = some (.cells #[.string ⟨#[115]⟩] 9 (0, 0))
  mc : w.cell? ⟨g, 0, none⟩ = some (.string m)
  lt : g < w.heap.size
  ok : markOk (bt m) = true
  tab : TabW w
theorem IsAt.below {w w' : World} {br bm pr pb ph g : Nat} {m : ByteArray} (h : IsAt w br bm pr pb ph g m) (hb : Below w.heap.size w w') : IsAt w' br bm pr pb ph g m :=
  ⟨h.rg.below hb, blk hb (lt_blk h.pr) h.pr, blk hb (lt_blk h.pb) h.pb, blk hb (lt_blk h.ph) h.ph, (hb.cell (p := ⟨g, 0, none⟩) h.lt).trans h.mc, Nat.lt_of_lt_of_le h.lt hb.size, h.ok, h.tab.below hb⟩
theorem sl_none (w : World) : Sl w 1 (.slice none 0 0) (([] : List ByteArray).map fun x => [.string x]) := .inl ⟨rfl, none, 0, rfl, fun _ => rfl⟩
set_option maxHeartbeats 1000000 in
theorem iss1_any {w : World} {br bm pr pb ph g : Nat} {m : ByteArray} (h : IsAt w br bm pr pb ph g m) : Calls Tryz.prog 62 #[.pointer (some ⟨pr, 0, none⟩), .pointer (some ⟨pb, 0, none⟩), .pointer (some ⟨ph, 0, none⟩)] w (RetB w false) := by
  have HM := Lib.hid (mayB_any br bm g m w h.rg h.mc h.lt (sl_none w) h.ok h.tab)
  have HN := Lib.hid (fun W => markName_any ⟨#[115]⟩ W)
  rw [nm_s] at HN
  have HH := Lib.hid h
  have p0 := cell_blk h.pr 0
  have b0 := cell_blk h.pb 0
  have b1 := cell_blk h.pb 1
  have b2 := cell_blk h.pb 2
  have b3 := cell_blk h.pb 3
  have b4 := cell_blk h.pb 4
  have b5 := cell_blk h.pb 5
  have b6 := cell_blk h.pb 6
  have b7 := cell_blk h.pb 7
  have b8 := cell_blk h.pb 8
  unfold billC at HM b0 b1 b2 b3 b4 b5 b6 b7 b8
  clear h
  go_enter Tryz.func62, Tryz.ntmps62
  go_wp2_with (first
    | ((with_reducible refine HM.out.mono ?_); rintro e w1 ⟨rfl, hb1⟩; have HB1 := Lib.hid hb1; have s0 := cell_blk (HH.out.below hb1).ph 0; clear hb1)
    | ((with_reducible refine (HN.out _).mono ?_); rintro e w2 ⟨rfl, hb2⟩; have HB2 := Lib.hid (HB1.out.trans (hb2.mono HB1.out.size)); clear hb2)
    | fail)
  go_ret
  exact retB rfl HB2.out
set_option maxHeartbeats 1000000 in
theorem iss2_any {w : World} {br bm pr pb ph g : Nat} {m : ByteArray} (h : IsAt w br bm pr pb ph g m) : Calls Tryz.prog 64 #[.pointer (some ⟨pr, 0, none⟩), .pointer (some ⟨pb, 0, none⟩)] w (RetB w false) := by
  have HH := Lib.hid h
  clear h
  go_enter Tryz.func64, Tryz.ntmps64
  go_wp2_with fail
  refine Any.region_lit (fun
    | 0 => Any.val (.pointer (some ⟨br, 0, none⟩))
    | 1 => Any.val (.pointer (some ⟨br, 0, none⟩))
    | 2 => Any.val (.pointer (some ⟨br, 1, none⟩))
    | 3 => Any.val (.map (some bm))
    | 4 => Any.val (.pointer (some ⟨pb, 0, none⟩))
    | 5 => Any.val (.string ⟨#[98, 49]⟩)
    | 6 => Any.val (.pointer none)
    | 7 => Any.val (.bool false)
    | 8 => Any.val (.bool false)
    | _ => Any.idle) (by kernel_rfl) (by kernel_rfl) (by kernel_rfl) ?_ ?_ ?_
  · intro i _
    match i with
    | 0 => exact Any.lasts_val _
    | 1 => exact Any.lasts_val _
    | 2 => exact Any.lasts_val _
    | 3 => exact Any.lasts_val _
    | 4 => exact Any.lasts_val _
    | 5 => exact Any.lasts_val _
    | 6 => exact Any.lasts_val _
    | 7 => exact Any.lasts_val _
    | 8 => exact Any.lasts_val _
    | n + 9 => exact Any.lasts_idle
  · refine ⟨?_, ?_, ?_, ?_, ?_, ?_, ?_, ?_, ?_, trivial⟩
    · refine Any.owes_plain rfl fun ρ wo hs' hb hc' => ?_
      have h0 : ρ (.tmp 0) = .pointer (some ⟨pr, 0, none⟩) := hs'.old' 0 (by kernel_rfl)
      have c0 : wo.cell? ⟨pr, 0, none⟩ = some (.pointer (some ⟨br, 0, none⟩)) := cell_blk (HH.out.below (below_undrew hb)).pr 0
      go_simp
      exact Any.post_val hb rfl rfl
    · refine Any.owes_plain rfl fun ρ wo hs' hb hc' => ?_
      have h3 : ρ (.tmp 3) = .pointer (some ⟨br, 0, none⟩) := hs'.new' 3 0 (by kernel_rfl)
      go_simp
      exact Any.post_val hb rfl rfl
    · refine Any.owes_plain rfl fun ρ wo hs' hb hc' => ?_
      have h4 : ρ (.tmp 4) = .pointer (some ⟨br, 0, none⟩) := hs'.new' 4 1 (by kernel_rfl)
      go_simp
      exact Any.post_val hb rfl rfl
    · refine Any.owes_plain rfl fun ρ wo hs' hb hc' => ?_
      have h5 : ρ (.tmp 5) = .pointer (some ⟨br, 1, none⟩) := hs'.new' 5 2 (by kernel_rfl)
      have c0 : wo.cell? ⟨br, 1, none⟩ = some (.map (some bm)) := cell_blk (HH.out.below (below_undrew hb)).rg.rb 1
      go_simp
      exact Any.post_val hb rfl rfl
    · refine Any.owes_plain rfl fun ρ wo hs' hb hc' => ?_
      have h1 : ρ (.tmp 1) = .pointer (some ⟨pb, 0, none⟩) := hs'.old' 1 (by kernel_rfl)
      go_simp
      exact Any.post_val hb rfl rfl
    · refine Any.owes_plain rfl fun ρ wo hs' hb hc' => ?_
      have h7 : ρ (.tmp 7) = .pointer (some ⟨pb, 0, none⟩) := hs'.new' 7 4 (by kernel_rfl)
      have c0 : wo.cell? ⟨pb, 0, none⟩ = some (.string ⟨#[98, 49]⟩) := cell_blk (HH.out.below (below_undrew hb)).pb 0
      go_simp
      exact Any.post_val hb rfl rfl
    · refine Any.owes_plain rfl fun ρ wo hs' hb hc' => ?_
      have h6 : ρ (.tmp 6) = .map (some bm) := hs'.new' 6 3 (by kernel_rfl)
      have h8 : ρ (.tmp 8) = .string ⟨#[98, 49]⟩ := hs'.new' 8 5 (by kernel_rfl)
      exact Mp.ok_lookup (l := []) Tryz.underlying133 Tryz.underlying9 (zeroEn _) h6 h8 (HH.out.below (below_undrew hb)).rg.mp (Any.post_val hb rfl (by rfl))
    · refine Any.owes_plain rfl fun ρ wo hs' hb hc' => ?_
      have h9 : ρ (.tmp 9) = .pointer none := hs'.new' 9 6 (by kernel_rfl)
      go_simp
      exact Any.post_val hb rfl rfl
    · refine Any.owes_plain rfl fun ρ wo hs' hb hc' => ?_
      have h10 : ρ (.tmp 10) = .bool false := hs'.new' 10 7 (by kernel_rfl)
      exact Any.ok_assign (Any.post_val hb rfl h10)
  intro vals w5 hb hk ha
  have h7 : vals 7 = .bool false := hk 7 (by kernel_rfl)
  have h8 : vals 8 = .bool false := hk 8 (by kernel_rfl)
  have HB5 := Lib.hid hb
  clear hk ha hb
  simp only [Any.putAll]
  go_frame
  simp only [Nat.zero_add, Nat.reduceAdd]
  rw [h8]
  clear h7 h8
  go_wp2_with fail
  go_ret
  exact retB rfl HB5.out
theorem iss31_any (br bm pr : Nat) (s : ByteArray) (w : World) (hr : Rg0 w br bm lineB) (hp : w.heap[pr]? = some (.cells #[.pointer (some ⟨br, 0, none⟩)] 50 (0, 0))) : Calls Tryz.prog 67 #[.string s, .pointer (some ⟨pr, 0, none⟩)] w (RetB w false) := by
  have HB := Lib.hid (box0_any br bm s w hr)
  have p0 := cell_blk hp 0
  clear hr hp
  go_enter Tryz.func67, Tryz.ntmps67
  go_wp2_with (first
    | ((with_reducible refine HB.out.mono ?_); rintro e w1 ⟨rfl, hb1⟩; have HB1 := Lib.hid hb1; clear hb1)
    | fail)
  go_ret
  exact retB rfl HB1.out
theorem iss3_any {w : World} {br bm pr pb ph g : Nat} {m : ByteArray} (h : IsAt w br bm pr pb ph g m) : Calls Tryz.prog 65 #[.pointer (some ⟨pb, 0, none⟩), .pointer (some ⟨pr, 0, none⟩)] w (RetB w false) := by
  have eg : ∀ args w, (callFunc 67 args).run Tryz.prog w = .ok (.enter 67 args) w := enters_of Tryz.func67 (by kernel_rfl) rfl
  have hs : Sl w 1 (.slice (some ⟨g, 0, none⟩) 1 1) ([m].map fun x => [.string x]) := .inr ⟨g, 0, 1, rfl, h.lt, by simp, by decide, fun i r hr j u hu => by
    match i, hr with
    | 0, hr =>
      obtain rfl : [.string m] = r := by simpa using hr
      match j, hu with
      | 0, hu =>
        obtain rfl : Value.string m = u := by simpa using hu
        exact h.mc
      | k + 1, hu => simp at hu
    | k + 1, hr => simp at hr⟩
  have HC := Lib.hid (containsSt (f := fun _ => false) 67 #[.pointer (some ⟨pr, 0, none⟩)] [m] _ w hs eg (fun W x _ hW => iss31_any br bm pr x W (h.rg.below hW) (blk hW (lt_blk h.pr) h.pr)))
  simp only [List.any_cons, List.any_nil, Bool.or_self] at HC
  have b5 := cell_blk h.pb 5
  unfold billC at b5
  clear h eg hs
  go_enter Tryz.func65, Tryz.ntmps65
  go_wp2_with (first
    | ((with_reducible refine HC.out.mono ?_); rintro e w1 ⟨rfl, hb1⟩; have HB1 := Lib.hid hb1; clear hb1)
    | fail)
  go_ret
  exact retB rfl HB1.out
theorem iss4_any {w : World} {br bm pr pb ph g : Nat} {m : ByteArray} (h : IsAt w br bm pr pb ph g m) : Calls Tryz.prog 69 #[.pointer (some ⟨pr, 0, none⟩)] w (RetB w false) := by
  have p0 := cell_blk h.pr 0
  have c1 : w.cell? ⟨br, 1, none⟩ = some (.map (some bm)) := cell_blk h.rg.rb 1
  have HM := Lib.hid h.rg.mp
  clear h
  go_enter Tryz.func69, Tryz.ntmps69
  go_wp2_with (first
    | ((with_reducible refine Mp.wpl_len (b := bm) (l := []) ?_ ?_ Tryz.underlying133 HM.out ?_); rfl; rfl)
    | fail)
  go_ret
  exact retB rfl (Below.refl _ _)
theorem goI1 (caps : Array Value) (w : World) : (callFunc 62 caps).run Tryz.prog w = .ok (.enter 62 caps) w := by kernel_rfl
theorem goI2 (caps : Array Value) (w : World) : (callFunc 64 caps).run Tryz.prog w = .ok (.enter 64 caps) w := by kernel_rfl
theorem goI3 (caps : Array Value) (w : World) : (callFunc 65 caps).run Tryz.prog w = .ok (.enter 65 caps) w := by kernel_rfl
theorem goI4 (caps : Array Value) (w : World) : (callFunc 69 caps).run Tryz.prog w = .ok (.enter 69 caps) w := by kernel_rfl
def issNo : Nat → Int
  | 0 => 1 | 1 => 5 | 2 => 9 | _ => 7
def issFn : Nat → FuncId
  | 0 => 62 | 1 => 64 | 2 => 65 | _ => 69
def issCap (pr pb ph : Nat) : Nat → Array Value
  | 0 => #[.pointer (some ⟨pr, 0, none⟩), .pointer (some ⟨pb, 0, none⟩), .pointer (some ⟨ph, 0, none⟩)] | 1 => #[.pointer (some ⟨pr, 0, none⟩), .pointer (some ⟨pb, 0, none⟩)] | 2 => #[.pointer (some ⟨pb, 0, none⟩), .pointer (some ⟨pr, 0, none⟩)] | _ => #[.pointer (some ⟨pr, 0, none⟩)]
def issCells (pr pb ph : Nat) : Array Value := #[.int .i64 1, .func (.func (issFn 0)) #[] (issCap pr pb ph 0), .int .i64 5, .func (.func (issFn 1)) #[] (issCap pr pb ph 1), .int .i64 9, .func (.func (issFn 2)) #[] (issCap pr pb ph 2), .int .i64 7, .func (.func (issFn 3)) #[] (issCap pr pb ph 3)]
theorem iss_first {w : World} {br bm pr pb ph g bs : Nat} {m : ByteArray} (h : IsAt w br bm pr pb ph g m) (hs : w.heap[bs]? = some (.cells (issCells pr pb ph) 142 (0, 0))) :
    Calls Tryz.prog 61 #[.slice (some ⟨bs, 0, none⟩) 4 4] w (Ret w (.int .i64 0)) := by
  refine (firstR_gen 4 (by decide) bs issNo issFn (issCap pr pb ph) (fun _ => false) (fun _ W => Below w.heap.size w W) (Below w.heap.size w) w (Below.refl _ _) ?_ ?_ ?_ ?_ (fun _ h => h)).mono (fun e w' h => h)
  · intro i hi w'
    match i, hi with
    | 0, _ => exact goI1 _ _
    | 1, _ => exact goI2 _ _
    | 2, _ => exact goI3 _ _
    | 3, _ => exact goI4 _ _
  · intro i w' hi hb
    have hs' := blk hb (lt_blk hs) hs
    have q0 := cell_blk hs' (2 * i)
    have q1 := cell_blk hs' (2 * i + 1)
    rw [q0, q1]
    match i, hi with
    | 0, _ => exact ⟨rfl, rfl⟩
    | 1, _ => exact ⟨rfl, rfl⟩
    | 2, _ => exact ⟨rfl, rfl⟩
    | 3, _ => exact ⟨rfl, rfl⟩
  · intro i w' o hb
    exact hb.trans ((one_below w' o).mono hb.size)
  · intro i w' hi hb
    have hh := h.below hb
    have hlt : bs < w'.heap.size := Nat.lt_of_lt_of_le (lt_blk hs) hb.size
    have key : ∀ {f : FuncId} {c : Array Value}, Calls Tryz.prog f c w' (RetB w' false) → Calls Tryz.prog f c w' fun e w'' => e = .returned (.bool false) ∧ (false = false → Below w.heap.size w w'') ∧ (false = true → Below w.heap.size w w'') ∧ w''.cell? ⟨w'.heap.size - 1, 0, none⟩ = w'.cell? ⟨w'.heap.size - 1, 0, none⟩ := fun hc =>
      hc.mono fun e w'' hr => ⟨hr.1, fun _ => hb.trans (hr.2.mono hb.size), fun _ => hb.trans (hr.2.mono hb.size), World.cell?_of_block (a := ⟨w'.heap.size - 1, 0, none⟩) (hr.2.block _ (by simp; omega))⟩
    match i, hi with
    | 0, _ => exact key (iss1_any hh)
    | 1, _ => exact key (iss2_any hh)
    | 2, _ => exact key (iss3_any hh)
    | 3, _ => exact key (iss4_any hh)
end Go.Proofs.YtbigoifpfkdkjaaGreatDoor.Sc
