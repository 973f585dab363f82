/- Contracts of the small functions that the laws of admission use. -/
import Derived.Test.YtnlbpfddhdchnaaQ
import Derived.Laws.Bits64
set_option linter.unusedVariables false
set_option linter.unusedSimpArgs false
namespace Go.Proofs.Ytnlbpfddhdchnaa
open Go.RowKit

def inCyc (n : Int) : Prop := 0 ≤ n ∧ n ≤ 1099511627776
instance (n : Int) : Decidable (inCyc n) := by unfold inCyc; exact inferInstance

structure Cfg where
  cores : Int
  slot : Int
  transfer : Int
  mul : Int
  div : Int
  taken : Int
  hazard : Int
  isets : Int
  iways : Int
  iline : Int
  dsets : Int
  dways : Int
  dline : Int
  quantum : Int
  kernel : Int

@[reducible] def Cfg.v (c : Cfg) : Value := .agg #[.int .i64 c.cores, .int .i64 c.slot, .int .i64 c.transfer, .int .i64 c.mul, .int .i64 c.div, .int .i64 c.taken, .int .i64 c.hazard, .int .i64 c.isets, .int .i64 c.iways, .int .i64 c.iline, .int .i64 c.dsets, .int .i64 c.dways, .int .i64 c.dline, .int .i64 c.quantum, .int .i64 c.kernel]

/-! A whole configuration, read out of the block that holds it. -/
noncomputable def ldS (v : Value) (w : World) : Result Next := (execOp (fun _ => v) { dst := none, op := .load 27 (.tmp 0), type := 0, pos := "", after := #[], guard := none }).run Try.prog w
noncomputable def ldR (g : Nat) (w : World) : Option Obj → Result Next
  | some (.cells cs t fr) => if cs.size = 15 then .ok (.value (.agg cs)) w else ldS (.pointer (some ⟨g, 0, none⟩)) w
  | _ => ldS (.pointer (some ⟨g, 0, none⟩)) w
theorem exec_ld (ρ : Operand → Value) (dst : Option Tmp) (x : Operand) (ty : TypeId) (pos : String) (after : Array Edge) (guard : Option (Nat × Bool)) (w : World) :
    (execOp ρ { dst, op := .load 27 x, type := ty, pos, after, guard }).run Try.prog w = ldS (ρ x) w := rfl
theorem ldS_at (g : Nat) (w : World) : ldS (.pointer (some ⟨g, 0, none⟩)) w = ldR g w (blk w g) := by
  unfold blk
  cases h : w.heap[g]? with
  | none => rfl
  | some o =>
    cases o with
    | cells cs t fr =>
      unfold ldR
      simp only
      split
      · rename_i hs
        unfold ldS
        simp only [execOp, Instr.loadAt, Instr.sureAddr, Sem.run_bind, Sem.run_pure, Result.andThen_ok]
        rw [run_loadVar_row w g t 27 cs fr _ h Try.underlying27 rfl (by rw [hs]; kernel_rfl)]
        rfl
      · rfl
    | _ => rfl
theorem ldR_some (g : Nat) (w : World) (cs : Array Value) (t : TypeId) (fr : Nat × Nat) (h : cs.size = 15) : ldR g w (some (.cells cs t fr)) = .ok (.value (.agg cs)) w := by
  simp [ldR, h]
attribute [go_sem ↓] exec_ld
attribute [go_sem] ldS_at ldR_some

def busOK (c : Cfg) : Prop := 1 ≤ c.cores ∧ c.cores ≤ 4 ∧ 1 ≤ c.transfer ∧ c.transfer ≤ c.slot ∧ c.slot ≤ 1000000
instance (c : Cfg) : Decidable (busOK c) := by unfold busOK; exact inferInstance

set_option maxHeartbeats 1000000 in
theorem ranged_c (n : Int) (w : World) : Calls Try.prog 13 #[.int .i64 n] w fun e w' => e = .returned (.bool (decide (inCyc n))) ∧ w = w' := by
  go_enter Try.func13, Try.ntmps13
  go_wp2
  all_goals
    go_ret
    exact ⟨ret_bool (eq_dec (by simp [inCyc]; try omega)), rfl⟩

set_option maxHeartbeats 1000000 in
theorem count_c (n : Int) (w : World) : Calls Try.prog 20 #[.int .i64 n] w fun e w' => e = .returned (.bool (decide (inCyc n))) ∧ w = w' := by
  go_enter Try.func20, Try.ntmps20
  go_wp2
  all_goals
    go_ret
    exact ⟨ret_bool (eq_dec (by simp [inCyc]; try omega)), rfl⟩

set_option maxHeartbeats 1000000 in
theorem bus_valid (c : Cfg) (w : World) : Calls Try.prog 22 #[c.v] w fun e w' => e = .returned (.bool (decide (busOK c))) ∧ Below w.heap.size w w' := by
  unfold Cfg.v
  go_enter Try.func22, Try.ntmps22
  go_wp2
  all_goals
    go_ret
    exact ⟨ret_bool (eq_dec (by simp [busOK]; try omega)), (Below.refl _ _).alloc (Nat.le_refl _) _⟩

def isPow (n most : Int) : Bool := decide (1 ≤ n) && (decide (n ≤ most) && (bits .and .i64 n (n - 1) == 0))

set_option maxHeartbeats 1000000 in
theorem power_c (n most : Int) (w : World) (h : n ≤ 9223372036854775807) : Calls Try.prog 30 #[.int .i64 n, .int .i64 most] w fun e w' => e = .returned (.bool (isPow n most)) ∧ w = w' := by
  go_enter Try.func30, Try.ntmps30
  go_wp2
  all_goals
    go_ret
    exact ⟨ret_bool (by simp [isPow, *]; try omega), rfl⟩

/-- A cache's geometry. -/
def cacheOK (sets ways line : Int) : Bool := isPow sets 64 && (decide (1 ≤ ways) && (decide (ways ≤ 8) && isPow line 16))
theorem cacheOK_bounds {sets ways line : Int} (h : cacheOK sets ways line = true) : 1 ≤ sets ∧ sets ≤ 64 ∧ 1 ≤ ways ∧ ways ≤ 8 := by
  simp [cacheOK, isPow] at h
  omega

set_option maxHeartbeats 1000000 in
theorem cache_valid (sets ways line : Int) (w : World) (h1 : sets ≤ 9223372036854775807) (h2 : line ≤ 9223372036854775807) :
    Calls Try.prog 24 #[.agg #[.int .i64 sets, .int .i64 ways, .int .i64 line]] w fun e w' => e = .returned (.bool (cacheOK sets ways line)) ∧ Below w.heap.size w w' := by
  go_enter Try.func24, Try.ntmps24
  go_wp2_with (go_at_call 30; (with_reducible refine (power_c _ _ _ (by assumption)).mono ?_); rintro e w1 ⟨rfl, rfl⟩)
  all_goals
    go_ret
    exact ⟨ret_bool (by simp [cacheOK, *]; try omega), (Below.refl _ _).alloc (Nat.le_refl _) _⟩

def badT (n : Int) : Bool := decide (n < 0) || decide (1000 < n)
def anyBad (zs : List Int) : Bool := zs.any badT

set_option maxHeartbeats 1000000 in
theorem pipe_lit (n : Int) (w : World) : Calls Try.prog 29 #[.int .i64 n] w fun e w' => e = .returned (.bool (badT n)) ∧ w = w' := by
  go_enter Try.func29, Try.ntmps29
  go_wp2
  all_goals
    go_ret
    exact ⟨ret_bool (by simp [badT]; try omega), rfl⟩

set_option maxHeartbeats 2000000 in
theorem index_bad (b : Nat) (zs : List Int) (w : World) (hl : zs.length ≤ 1000) (hc : ∀ j, j < zs.length → w.cell? ⟨b, j, none⟩ = some (.int .i64 (zs.getD j 0))) :
    Calls Try.prog 31 #[.slice (some ⟨b, 0, none⟩) zs.length zs.length, .func (.func 29) #[] #[]] w fun e w' => (∃ r : Int, e = .returned (.int .i64 r) ∧ Hid (0 ≤ r ↔ anyBad zs = true)) ∧ w = w' := by
  go_enter Try.func31, Try.ntmps31
  go_wp2
  go_loop [8] (fun i => ∃ k : Nat, k ≤ zs.length ∧ i = .int .i64 k ∧ (zs.take k).any badT = false) (fun i => zs.length - (intOf i).toNat)
  case atStart => exact ⟨0, Nat.zero_le _, rfl, by simp⟩
  case round =>
    obtain ⟨k, hk, rfl, ha⟩ := hrel
    have HA := Lib.hid ha
    clear ha
    by_cases hlt : k < zs.length
    · have hck := hc k hlt
      go_wp2_with (go_at_call 29; (with_reducible refine (pipe_lit _ _).mono ?_); rintro e w1 ⟨rfl, rfl⟩)
      · go_ret
        exact ⟨⟨_, rfl, Lib.hid (by
          refine ⟨fun _ => ?_, fun _ => by omega⟩
          rw [anyBad, List.any_eq_true]
          exact ⟨zs[k], List.getElem_mem _, by assumption⟩)⟩, rfl⟩
      · have hb : badT zs[k] = false := by assumption
        go_round
        case rel => exact ⟨k + 1, by omega, by go_num, by rw [List.take_succ_eq_append_getElem hlt, List.any_append, HA.out]; simp [hb]⟩
        case measure => simp [intOf]; omega
    · go_wp2
      go_ret
      obtain rfl : k = zs.length := by omega
      exact ⟨⟨_, rfl, Lib.hid (by
        have h := HA.out
        rw [List.take_length] at h
        rw [anyBad, h]
        decide)⟩, rfl⟩

set_option maxHeartbeats 2000000 in
theorem contains_bad (b : Nat) (zs : List Int) (w : World) (hl : zs.length ≤ 1000) (hc : ∀ j, j < zs.length → w.cell? ⟨b, j, none⟩ = some (.int .i64 (zs.getD j 0))) :
    Calls Try.prog 28 #[.slice (some ⟨b, 0, none⟩) zs.length zs.length, .func (.func 29) #[] #[]] w fun e w' => e = .returned (.bool (anyBad zs)) ∧ w = w' := by
  go_enter Try.func28, Try.ntmps28
  go_wp2_with (go_at_call 31; (with_reducible refine (index_bad b zs _ hl hc).mono ?_); rintro e w' ⟨⟨r, rfl, hr⟩, rfl⟩)
  all_goals
    go_ret
    exact ⟨ret_bool (by rw [Bool.eq_iff_iff]; simp only [decide_eq_true_eq]; exact hr.out), rfl⟩

def pipeOK (mul div taken hazard : Int) : Bool := !(anyBad [mul, div, taken, hazard])
theorem pipeOK_bounds {mul div taken hazard : Int} (h : pipeOK mul div taken hazard = true) : 0 ≤ mul ∧ mul ≤ 1000 ∧ 0 ≤ div ∧ div ≤ 1000 ∧ 0 ≤ taken ∧ taken ≤ 1000 ∧ 0 ≤ hazard ∧ hazard ≤ 1000 := by
  simp [pipeOK, anyBad, badT] at h
  omega

set_option maxHeartbeats 2000000 in
theorem pipe_valid (mul div taken hazard : Int) (w : World) :
    Calls Try.prog 23 #[.agg #[.int .i64 mul, .int .i64 div, .int .i64 taken, .int .i64 hazard]] w fun e w' => e = .returned (.bool (pipeOK mul div taken hazard)) ∧ Below w.heap.size w w' := by
  go_enter Try.func23, Try.ntmps23
  go_wp2_with fail
  refine (contains_bad (w.heap.size + 1) [mul, div, taken, hazard] _ (by simp) ?_).mono ?_
  · intro j hj
    match j, hj with
    | 0, _ => simp
    | 1, _ => simp
    | 2, _ => simp
    | 3, _ => simp
  · rintro e w' ⟨rfl, rfl⟩
    go_wp2
    go_ret
    exact ⟨ret_bool (by simp [pipeOK]), ((Below.refl _ _).alloc (Nat.le_refl _) _).alloc (by simp) _⟩

def Cfg.wf (c : Cfg) : Prop := c.isets ≤ 9223372036854775807 ∧ c.iline ≤ 9223372036854775807 ∧ c.dsets ≤ 9223372036854775807 ∧ c.dline ≤ 9223372036854775807

def macOK (c : Cfg) : Bool := decide (busOK c) && (pipeOK c.mul c.div c.taken c.hazard && (cacheOK c.isets c.iways c.iline && (cacheOK c.dsets c.dways c.dline &&
  (decide (1 ≤ c.quantum) && (decide (c.quantum ≤ 16777216) && (decide (0 ≤ c.kernel) && decide (c.kernel ≤ c.quantum)))))))

set_option maxHeartbeats 4000000 in
theorem machine_valid (c : Cfg) (w : World) (hw : c.wf) : Calls Try.prog 11 #[c.v] w fun e w' => e = .returned (.bool (macOK c)) ∧ Below w.heap.size w w' := by
  unfold Cfg.v
  obtain ⟨h1, h2, h3, h4⟩ := hw
  go_enter Try.func11, Try.ntmps11
  go_wp2_with (first | (go_at_call 22; (with_reducible refine (bus_valid c _).mono ?_); rintro e w1 ⟨rfl, hb⟩; have HB := hb_next (w := w) (by repeat (first | (with_reducible assumption) | exact hid_refl _ | apply hid_alloc | apply hid_drew | apply hid_drewN)) hb; have ⟨hc, hf⟩ := bcell hb; have hk := bblk hb; have hz : w.heap.size < w1.heap.size := (by have h1 := hb.size; (try simp at h1); omega); clear hb) | (go_at_call 23; (with_reducible refine (pipe_valid _ _ _ _ _).mono ?_); rintro e w1 ⟨rfl, hb⟩; have HB := hb_next (w := w) (by repeat (first | (with_reducible assumption) | exact hid_refl _ | apply hid_alloc | apply hid_drew | apply hid_drewN)) hb; have ⟨hc, hf⟩ := bcell hb; have hk := bblk hb; have hz : w.heap.size < w1.heap.size := (by have h1 := hb.size; (try simp at h1); omega); clear hb) | (go_at_call 24; (with_reducible refine (cache_valid _ _ _ _ (by assumption) (by assumption)).mono ?_); rintro e w1 ⟨rfl, hb⟩; have HB := hb_next (w := w) (by repeat (first | (with_reducible assumption) | exact hid_refl _ | apply hid_alloc | apply hid_drew | apply hid_drewN)) hb; have ⟨hc, hf⟩ := bcell hb; have hk := bblk hb; have hz : w.heap.size < w1.heap.size := (by have h1 := hb.size; (try simp at h1); omega); clear hb))
  all_goals
    go_ret
    exact ⟨ret_bool (by simp [macOK, *]; try omega), HB.out⟩

end Go.Proofs.Ytnlbpfddhdchnaa
