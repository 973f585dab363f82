/- Words for walks: what lay in memory stays; regions that draw their order, whose callees keep what lay in memory. -/
import Derived.Test.YtnlbpfddhdchnaaProg
import Derived.WalkKit
import Derived.KernelRfl
import Derived.Lib.Hide
import Derived.Deep.QuietTactic
import Derived.BigQuiet
import Derived.WalkLawsBesides
set_option linter.unusedVariables false
set_option linter.unusedSimpArgs false
namespace Go.Proofs.Ytnlbpfddhdchnaa
open Go.RowKit

theorem ret_bool {a b : Bool} (h : a = b) : Ending.returned (.bool a) = .returned (.bool b) := by rw [h]
theorem ret_int {k : IntKind} {a b : Int} (h : a = b) : Ending.returned (.int k a) = .returned (.int k b) := by rw [h]

def mx (a b : Int) : Int := if a < b then b else a
def mn (a b : Int) : Int := if b < a then b else a
theorem mx_le (a b : Int) : a ≤ mx a b ∧ b ≤ mx a b := by unfold mx; split <;> omega
theorem mx_lt {a b n : Int} (ha : a ≤ n) (hb : b ≤ n) : mx a b ≤ n := by unfold mx; split <;> omega
@[go_sem ↓] theorem run_mx2 {P : Program} {w : World} (ts : Array TypeId) (t : TypeId) (k k' : IntKind) (x y : Int) : (Builtin.max_ ts t #[.int k x, .int k' y]).run P w = .ok (.int k (mx x y)) w := by
  simp [Builtin.max_, Builtin.max2, mx]
@[go_sem ↓] theorem run_mn2 {P : Program} {w : World} (ts : Array TypeId) (t : TypeId) (k k' : IntKind) (x y : Int) : (Builtin.min_ ts t #[.int k x, .int k' y]).run P w = .ok (.int k (mn x y)) w := by
  simp [Builtin.min_, Builtin.min2, mn]
@[go_sem ↓] theorem run_mx3 {P : Program} {w : World} (ts : Array TypeId) (t : TypeId) (k k' k'' : IntKind) (x y z : Int) : (Builtin.max_ ts t #[.int k x, .int k' y, .int k'' z]).run P w = .ok (.int k (mx (mx x y) z)) w := by
  have h := run_max_int3 (P := P) (w := w) ts t k k' k'' x y z
  rw [h]; rfl

theorem eq_dec {b : Bool} {p : Prop} [Decidable p] (h : b = true ↔ p) : b = decide p := by
  rw [Bool.eq_iff_iff, decide_eq_true_iff]; exact h

theorem bcell {W w1 : World} (hb : Below W.heap.size W w1) : (∀ b o, b < W.heap.size → w1.cell? ⟨b, o, none⟩ = W.cell? ⟨b, o, none⟩) ∧ (∀ b o, b < W.heap.size → w1.frozen? ⟨b, o, none⟩ = W.frozen? ⟨b, o, none⟩) :=
  ⟨fun b o h => hb.cell (p := ⟨b, o, none⟩) h, fun b o h => hb.frozen (p := ⟨b, o, none⟩) h⟩

theorem hid_refl (w : World) : Hid (Below w.heap.size w w) := Below.refl _ _
theorem hid_alloc {w W : World} {o : Obj} (h : Hid (Below w.heap.size w W)) : Hid (Below w.heap.size w (W.alloc o)) := h.out.alloc h.out.size o
theorem hid_drew {w W : World} (h : Hid (Below w.heap.size w W)) : Hid (Below w.heap.size w W.drew) := h.out.drew
theorem hid_drewN {w W : World} {n : Nat} (h : Hid (Below w.heap.size w W)) : Hid (Below w.heap.size w (W.drewN n)) :=
  ⟨h.out.os, h.out.tape, h.out.output, h.out.size, h.out.block⟩
theorem hb_next {w W w1 : World} (h : Hid (Below w.heap.size w W)) (hb : Below W.heap.size W w1) : Hid (Below w.heap.size w w1) :=
  h.out.trans (hb.mono h.out.size)

/-- A world in which all that lay in w lies as it was. -/
structure Since (w : World) where
  W : World
  b : Below w.heap.size w W
instance (w : World) : Inhabited (Since w) := ⟨⟨w, Below.refl _ _⟩⟩
@[go_sem] theorem since_cell {w : World} (x : Since w) (b o : Nat) (h : b < w.heap.size) : x.W.cell? ⟨b, o, none⟩ = w.cell? ⟨b, o, none⟩ := x.b.cell (p := ⟨b, o, none⟩) h
@[go_sem] theorem since_frozen {w : World} (x : Since w) (b o : Nat) (h : b < w.heap.size) : x.W.frozen? ⟨b, o, none⟩ = w.frozen? ⟨b, o, none⟩ := x.b.frozen (p := ⟨b, o, none⟩) h

/-- A whole block, by a name that simp leaves alone. -/
def blk (w : World) (b : Nat) : Option Obj := w.heap[b]?
@[go_sem] theorem blk_since {w : World} (x : Since w) (b : Nat) (h : b < w.heap.size) : blk x.W b = blk w b := x.b.block b h
@[go_sem] theorem blk_alloc_new (w : World) (o : Obj) : blk (w.alloc o) w.heap.size = some o := heap_alloc_new w o
@[go_sem] theorem blk_alloc_past (w : World) (o : Obj) (b : Nat) (h : b < w.heap.size) : blk (w.alloc o) b = blk w b := heap_alloc_old w o h
@[go_sem] theorem blk_drew (w : World) (b : Nat) : blk w.drew b = blk w b := rfl
@[go_sem] theorem blk_drewN (w : World) (n b : Nat) : blk (w.drewN n) b = blk w b := rfl
theorem bblk {W w1 : World} (hb : Below W.heap.size W w1) : ∀ b, b < W.heap.size → blk w1 b = blk W b := hb.block

theorem quiet_mono {P : Program} {ops : Array Oper} {C : World → Prop} {Q Q' : Act → Prop} (h : ∀ a, Q a → Q' a) : ∀ (l : List Oper) (a : Act), wpQuiet P ops C Q l a → wpQuiet P ops C Q' l a
  | [], a, hq => h a hq
  | o :: l, a, hq => by
    unfold wpQuiet at hq ⊢
    split at hq
    · rename_i hw
      rw [if_pos hw]
      exact Oper.quiet_mono (fun a => quiet_mono h l a) hq
    · rename_i hw
      rw [if_neg hw]
      exact quiet_mono h l _ hq
/-- A region that draws its order: one walk in the order of the text, what lay in memory staying as it was. -/
theorem wp_region_since {P : Program} {id : Nat} {l : List Oper} {Q : Exit → Act → World → Prop} {a : Act} {w : World} (hm : P.follows .mixedOrders = true) (hB : Region.lexB .any l.toArray = true)
    (h : wpQuiet P l.toArray (fun W => ∃ x : Since w, W = x.W) (fun a' => ∀ W, Below w.heap.size w W → Q .normal a' W) l a) : (Code.region id l.toArray true).wp P Q a w :=
  wp_region_quiet (C := fun W => ∃ x : Since w, W = x.W) hm hB ⟨⟨_, Below.drew (Below.refl _ _)⟩, rfl⟩ (by
    have h2 := quiet_mono (Q' := fun a' => ∀ W, (∃ x : Since w, W = x.W) → Q .normal a' W) (fun a ha W ⟨x, hx⟩ => ha W (hx ▸ x.b)) _ _ h
    simpa using h2)

theorem since_below {P : Program} {f : FuncId} {args : Array Value} {v : Value} {w : World} {x : Since w}
    (h : Calls P f args x.W fun e w' => e = .returned v ∧ Below x.W.heap.size x.W w') : Calls P f args x.W fun e w' => e = .returned v ∧ ∃ y : Since w, w' = y.W :=
  h.mono fun _ w' ⟨he, hb⟩ => ⟨he, ⟨w', x.b.trans (hb.mono x.b.size)⟩, rfl⟩
theorem since_same {P : Program} {f : FuncId} {args : Array Value} {v : Value} {w : World} {x : Since w}
    (h : Calls P f args x.W fun e w' => e = .returned v ∧ x.W = w') : Calls P f args x.W fun e w' => e = .returned v ∧ ∃ y : Since w, w' = y.W :=
  h.mono fun _ _ ⟨he, hb⟩ => ⟨he, x, hb.symm⟩
end Go.Proofs.Ytnlbpfddhdchnaa
