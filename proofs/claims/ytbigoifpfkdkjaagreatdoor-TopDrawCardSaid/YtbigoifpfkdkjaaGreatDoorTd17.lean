/- What a life hangs on; the chapter's example. An own row that grows by one element in a drawn region, its base kept. No program in sight. -/
import Derived.Test.YtbigoifpfkdkjaaGreatDoorTd16
import Derived.Test.YtbigoifpfkdkjaaGreatDoorTd11
namespace Go.Proofs.YtbigoifpfkdkjaaGreatDoor.Sc
open Go Go.RowKit Go.ChangeShapes Go.WideShapes Go.ChangeAt
set_option maxRecDepth 100000

/-- Terms: four parties, the sum, tolerances, the expiry, partial drawings. -/
structure Tm where
  iss : ByteArray
  app : ByteArray
  ben : ByteArray
  con : ByteArray
  sum : Int
  above : Int
  below : Int
  expiry : Int
  part : Bool
def Tm.cells (t : Tm) : Array Value := #[.string t.iss, .string t.app, .string t.ben, .string t.con, .int .i64 t.sum, .int .i64 t.above, .int .i64 t.below, .int .i64 t.expiry, .bool t.part]
def Tm.cr (t : Tm) : Cr := ⟨⟨#[]⟩, t.app, t.ben, t.iss, t.con, ⟨#[]⟩, ⟨#[]⟩, ⟨#[]⟩, t.sum, t.above, t.below, 0, t.expiry, 0, 0, t.part, false, none, 0, 0⟩
theorem tm_bare (t : Tm) : t.cr.bare = t.cr := rfl

def T0 : Tm := ⟨⟨#[107]⟩, ⟨#[121]⟩, ⟨#[115]⟩, ⟨#[]⟩, 5, 0, 0, 9, false⟩
def E1 : Ev := ⟨0, ⟨#[107]⟩, 0, 0⟩
def E2 : Ev := ⟨2, ⟨#[115]⟩, 0, 5⟩
def E3 : Ev := ⟨4, ⟨#[107]⟩, 0, 0⟩
def E4 : Ev := ⟨5, ⟨#[107]⟩, 0, 0⟩
def L0 : Lf := Lf.new T0.cr
def L1 : Lf := (L0.step E1).2
def L2 : Lf := (L1.step E2).2
def L3 : Lf := (L2.step E3).2
def L4 : Lf := (L3.step E4).2
theorem a0 : T0.cr.lives = true := by decide +kernel
theorem a1 : (L0.step E1).1 = 0 := by decide +kernel
theorem a2 : (L1.step E2).1 = 0 := by decide +kernel
theorem a3 : (L2.step E3).1 = 0 := by decide +kernel
theorem a4 : (L3.step E4).1 = 0 := by decide +kernel
theorem a5 : L3.owes ⟨#[107]⟩ = true := by decide +kernel
theorem a6 : L3.now.amt = 5 := by decide +kernel
theorem a7 : L4.owes ⟨#[121]⟩ = true := by decide +kernel
theorem a8 : L4.now.amt = 5 := by decide +kernel
theorem aS : (0 ≤ L0.st ∧ L0.st ≤ 7) ∧ (0 ≤ L1.st ∧ L1.st ≤ 7) ∧ (0 ≤ L2.st ∧ L2.st ≤ 7) ∧ (0 ≤ L3.st ∧ L3.st ≤ 7) := by decide +kernel
theorem aL : (L0.paid.length ≤ 4000 ∧ L0.evs.length ≤ 4000) ∧ (L1.paid.length ≤ 4000 ∧ L1.evs.length ≤ 4000) ∧ (L2.paid.length ≤ 4000 ∧ L2.evs.length ≤ 4000) ∧ (L3.paid.length ≤ 4000 ∧ L3.evs.length ≤ 4000) := by decide +kernel

theorem new_yes (c : Cr) (h : c.lives = true) (w : World) : Calls Tryz.prog 8 #[.agg c.cells] w fun e w' => ∃ b, e = .returned (.tuple #[.pointer (some ⟨b, 0, none⟩), .int .i64 0]) ∧ Below w.heap.size w w' ∧ ∃ F, Lv w' 116 F b (Lf.new c) ∧ ∀ k, F k → w.heap.size ≤ k := by
  refine (new_any c w).mono fun e w' h' => ?_
  obtain ⟨hb, ⟨h1, _⟩ | ⟨_, b, F, h2, h3, h4⟩⟩ := h'
  · rw [h] at h1; cases h1
  · exact ⟨b, h2, hb, F, h3, h4⟩
theorem owes_lv {w : World} {F : Nat → Prop} {b : Nat} {l : Lf} (h : Lv w 116 F b l) (p : ByteArray) :
    Calls Tryz.prog 11 #[.pointer (some ⟨b, 0, none⟩), .string p] w (Ret w (.tuple #[.int .i64 (if l.owes p then l.now.amt else 0), .bool (l.owes p)])) := by
  obtain ⟨vp, ve, h⟩ := h
  exact owes_any b l vp ve p w h.box
/-- What a step keeps of the blocks of a call that began at w0. -/
theorem after_step {w0 w w' : World} {t : TypeId} {F : Nat → Prop} {n : Int} {b : Nat} {l : Lf} {e : Ending} (hb : Below w0.heap.size w0 w) (hF : ∀ k, F k → w0.heap.size ≤ k) (h : AfterL w t F n b l e w') :
    e = .returned (.int .i64 n) ∧ Below w0.heap.size w0 w' ∧ ∃ F', Lv w' t F' b l ∧ ∀ k, F' k → w0.heap.size ≤ k := by
  obtain ⟨h1, h2, F', h3, h4⟩ := h
  exact ⟨h1, h2.behind hb hb.size (fun k hk hk2 => by have := hF k hk2; omega), F', h3, fun k hk => (h4 k hk).elim (hF k) (fun h => Nat.le_trans hb.size h)⟩

/-- The states' names. -/
def nameS (n : Int) : ByteArray := if n = 0 then ⟨#[105, 115, 115, 117, 101, 100]⟩ else if n = 1 then ⟨#[97, 100, 118, 105, 115, 101, 100]⟩ else if n = 2 then ⟨#[112, 114, 101, 115, 101, 110, 116, 101, 100]⟩ else if n = 3 then ⟨#[114, 101, 102, 117, 115, 101, 100]⟩
  else if n = 4 then ⟨#[104, 111, 110, 111, 117, 114, 101, 100]⟩ else if n = 5 then ⟨#[112, 97, 105, 100]⟩ else if n = 6 then ⟨#[114, 101, 105, 109, 98, 117, 114, 115, 101, 100]⟩ else if n = 7 then ⟨#[101, 120, 112, 105, 114, 101, 100]⟩ else ⟨#[]⟩
def RetNames (w : World) (e : Ending) (w' : World) : Prop := ∃ b, e = .returned (.slice (some ⟨b, 0, none⟩) 8 8) ∧ Below w.heap.size w w' ∧ w'.heap[b]? = some (.cells #[.string (nameS 0), .string (nameS 1), .string (nameS 2), .string (nameS 3), .string (nameS 4), .string (nameS 5), .string (nameS 6), .string (nameS 7)] 9 (0, 0))
end Go.Proofs.YtbigoifpfkdkjaaGreatDoor.Sc
namespace Go.Proofs.YtbigoifpfkdkjaaGreatDoor.Ord
open Go Go.RowKit
set_option maxRecDepth 100000
/-- A row that took the place of v0, out of operation j's element; its base is B. -/
def grownB (B : Nat) (e : TypeId) (sz n : Nat) (xs : List Value) (j : Nat) (v0 : Value) : Spec := ⟨fun _ v O w => w.ownsRow B e sz v n xs ∧ ∀ b, O b ↔ v.ownBlock = some b, [j], fun k => v0.ownBlock = some k⟩
theorem lasts_grownB {F : Nat → Prop} {w0 : World} (B : Nat) (e : TypeId) (sz n : Nat) (xs : List Value) (j : Nat) (v0 : Value) : Lasts F (grownB B e sz n xs j v0) w0 :=
  ⟨fun _ _ _ _ h b hb => (h.1.lt b ((h.2 b).1 hb)).2, fun _ _ _ _ _ h _ _ _ hs => ⟨Any.ownsRow_same h.1 (fun b hb => hs b ((h.2 b).2 hb)), h.2⟩⟩
section
variable {P : Program} {S : Nat → Spec} {Os : Nat → Nat → Prop} {dst : Option Tmp} {t : TypeId} {pos : String} {after : Array Edge} {gd : Option (Nat × Bool)} {ρ : Operand → Value} {w w0 : World} {i : Nat}
theorem ok_grownB {te e : TypeId} {z : Value} {size bytes n j B : Nat} {v0 : Value} {xs : List Value} {cs : Array Value} {x y : Operand} {ti : TypeInfo} (hu : P.underlying te = some (.slice e)) (hi : P.info? e = some ti) (hz : ti.zero = some z)
    (hsz : ti.size = size) (hby : ti.bytes = bytes) (hzs : z.cells.size = size) (hpos : 0 < size) (hx : ρ x = v0) (hy : ∃ ρ', (one e cs).know ρ' (ρ y) (Os j) w) (hown : w0.ownsRow B e size v0 n xs)
    (hkeep : ∀ b, v0.ownBlock = some b → w.heap[b]? = w0.heap[b]?) (hcs : cs.size = size) (h1 : ∀ u ∈ cs.toList, u.oneCell' = true) (h63 : n + 1 ≤ maxLen) (hb : (n + 1) * bytes ≤ 140737488355328) (hB : B ≤ w.heap.size)
    (hS : S i = grownB B e size (n + 1) (xs ++ cs.toList) j v0) : Any.OpOk P ⟨dst, .call ⟨.builtin .append, #[x, y], #[te, te]⟩, t, pos, after, gd⟩ ρ w (Post S Os i ρ w) := by
  obtain ⟨_, g, hg, hgb, -⟩ := hy
  have hown' : w.ownsRow B e size (ρ x) n xs := by rw [hx]; exact Any.ownsRow_same hown hkeep
  have hsrc : Sc.Src w size (ρ y) 1 cs.toList := by rw [hg]; exact Sc.src_block hgb (by simp [hcs])
  refine Any.ok_append_own hu hi hz hsz hby hzs hpos hown' hsrc h1 h63 hb hB fun v' w' h1 h2 h3 => ?_
  rw [hx] at h2 h3
  refine ⟨fun b => v'.ownBlock = some b, by rw [hS]; exact ⟨h1, fun b => Iff.rfl⟩, ⟨h2.os, h2.tape, h2.output⟩, h2.size, fun b hlt _ hne => h2.block b hlt (fun e => hne (by rw [hS]; exact e.symm)), fun b hb => ?_⟩
  rw [hS]
  rcases h3 b hb with h4 | h4
  · exact .inr (.inr h4)
  · exact .inr (.inl h4)
/-- Operation j's row, passed on. -/
theorem post_passB {B sz n j : Nat} {e : TypeId} {xs : List Value} {v : Value} {tk : List Nat} (hr : w.ownsRow B e sz v n xs) (hO : ∀ k, Os j k ↔ v.ownBlock = some k) (hj : j ∈ tk) (hS : S i = own B e sz n xs tk) : Post S Os i ρ w v w :=
  ⟨fun b => v.ownBlock = some b, by rw [hS]; exact ⟨hr, fun _ => Iff.rfl⟩, ⟨rfl, rfl, rfl⟩, Nat.le_refl _, fun _ _ _ _ => rfl, fun b hb => .inl ⟨j, by rw [hS]; exact hj, (hO b).2 hb⟩⟩
end
end Go.Proofs.YtbigoifpfkdkjaaGreatDoor.Ord
