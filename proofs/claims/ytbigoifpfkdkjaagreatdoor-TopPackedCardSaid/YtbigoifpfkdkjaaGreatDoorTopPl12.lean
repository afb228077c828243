/- TopPacked, plainly: what the boxes weigh together is what the lots weigh; each box is right. -/
import Derived.Test.YtbigoifpfkdkjaaGreatDoorPkPlC12
namespace Go.Proofs.YtbigoifpfkdkjaaGreatDoor.Sc
open Go Go.RowKit
set_option maxRecDepth 100000

/-- What the first k boxes weigh. -/
def wtTo (t : List Gd) (bs : List Bx) (k : Nat) : Int := sumL t Gd.wt (allLots (bs.take k))
theorem wtTo_next {t : List Gd} {bs : List Bx} {k : Nat} (h : k < bs.length) : wtTo t bs (k + 1) = wtTo t bs k + sumL t Gd.wt bs[k].lots := by
  rw [wtTo, List.take_succ_eq_append_getElem h, allLots_append, sumL_append, ← wtTo]
  congr 1
  simp [allLots]
structure TopPk (t : List Gd) (l : List Lt) (bs : List Bx) : Prop where
  lots : AllIn t l
  len : bs.length ≤ 64
  boxes : ∀ b ∈ bs, boxOk t b = true
  marks : (bs.map Bx.mark).Nodup
  same : joinL (allLots bs) = joinL l
  right : rightP t bs l = true
  sum : wtTo t bs bs.length = sumL t Gd.wt l
  sumV : sumV t Gd.wt l = .tuple #[.int .i64 (sumL t Gd.wt l), .int .i64 0]
theorem boxOk_all {t : List Gd} {b : Bx} (h : boxOk t b = true) : AllIn t b.lots := by
  simp only [boxOk, Bool.and_eq_true] at h
  exact (goP_iff.1 h.2.2.1).2.1
/-- What the law asks of each box. -/
theorem boxOk_law {t : List Gd} {b : Bx} (h : boxOk t b = true) : markOk (bt b.mark) = true ∧ sumV t Gd.wt b.lots = .tuple #[.int .i64 (sumL t Gd.wt b.lots), .int .i64 0] ∧ sumL t Gd.wt b.lots ≤ roomW b.kind ∧ togC t b.lots = 0 := by
  have h' := h
  simp only [boxOk, Bool.and_eq_true] at h'
  obtain ⟨-, h2, h3, -, h5, -⟩ := goP_iff.1 h'.2.2.1
  exact ⟨h'.1, sumV_in h2 (by have := (room_le b.kind).1; omega), h3, h5⟩
theorem packR_top {t : List Gd} (hok : ∀ g ∈ t, gdOk g = true) {first : Int} {own : ByteArray} {l : List Lt} {bs : List Bx} (h : packR t first own l = (0, bs)) : TopPk t l bs := by
  have hp := packR_packed hok h
  have hr := hp.right
  rw [rightP, Bool.and_eq_true, decide_eq_true_eq] at hr
  obtain ⟨h1, h2⟩ := (rightF_iff bs [] List.nodup_nil).1 hr.1
  rw [List.nil_append] at h2
  have hal : AllIn t (allLots bs) := fun x hx => by
    obtain ⟨b, hb, hx⟩ := List.mem_flatMap.1 hx
    exact boxOk_all (h1 b hb) x hx
  have hs : sumL t Gd.wt (allLots bs) = sumL t Gd.wt l := by
    rw [← sumL_joinL t Gd.wt l (fun x hx => by have := lot_range (hp.lots x hx).1; omega), ← hr.2, sumL_joinL t Gd.wt (allLots bs) (fun x hx => by have := lot_range (hal x hx).1; omega)]
  have hc : sumC t Gd.wt l = 0 := by
    unfold packR at h
    split at h
    rotate_left
    · rename_i h0; exact absurd (congrArg Prod.fst h) h0
    split at h
    · assumption
    · rename_i h0; exact absurd (congrArg Prod.fst h) h0
  have hle : sumL t Gd.wt l ≤ 1099511627776 := by
    rw [sumC, if_pos (lotsC_all hp.lots)] at hc
    split at hc
    · cases hc
    · omega
  exact ⟨hp.lots, hp.len, h1, h2, hr.2, hp.right, by rw [wtTo, List.take_length]; exact hs, sumV_in hp.lots hle⟩
theorem wtTo_bd {t : List Gd} {bs : List Bx} (hs : SelOk t Gd.wt) (h : ∀ b ∈ bs, boxOk t b = true) : ∀ k, k ≤ bs.length → 0 ≤ wtTo t bs k ∧ wtTo t bs k ≤ 28000 * k
  | 0, _ => by simp [wtTo, allLots, sumL]
  | k + 1, hk => by
    obtain ⟨h1, h2⟩ := wtTo_bd hs h k (by omega)
    have hb := h _ (List.getElem_mem (show k < bs.length by omega))
    obtain ⟨-, -, h3, -⟩ := boxOk_law hb
    have h4 := sumL_pos (boxOk_all hb) hs
    have h5 := (room_le (bs[k]'(by omega)).kind).1
    rw [wtTo_next (by omega)]
    omega
end Go.Proofs.YtbigoifpfkdkjaaGreatDoor.Sc
