/- Contracts of the reference of admission, and of the examples. -/
import Derived.Test.YtnlbpfddhdchnaaB
set_option linter.unusedVariables false
set_option linter.unusedSimpArgs false
namespace Go.Proofs.Ytnlbpfddhdchnaa
open Go.RowKit

set_option maxHeartbeats 2000000 in
theorem rtransfer (c : Cfg) (w : World) (h : busOK c) : Calls Try.prog 25 #[c.v] w fun e w' => e = .returned (.int .i64 (xfer c)) ∧ Below w.heap.size w w' := by
  unfold Cfg.v
  obtain ⟨m1, m2⟩ := bus_mul h
  obtain ⟨h1, h2, h3, h4, h5⟩ := h
  go_enter Try.func25, Try.ntmps25
  go_wp2
  go_ret
  exact ⟨ret_int rfl, (Below.refl _ _).alloc (Nat.le_refl _) _⟩

set_option maxHeartbeats 2000000 in
theorem rinstr (c : Cfg) (w : World) (h : CfgOK c) : Calls Try.prog 26 #[c.v] w fun e w' => e = .returned (.int .i64 (instr c)) ∧ Below w.heap.size w w' := by
  unfold Cfg.v
  obtain ⟨x1, x2⟩ := xfer_bounds h.bus
  obtain ⟨p1, p2, p3, p4, p5, p6, p7, p8⟩ := pipeOK_bounds h.pipe
  have y2 := mx_lt (mx_lt p2 p4) p6
  have y1 : 0 ≤ mx (mx c.mul c.div) c.taken := by have := mx_le (mx c.mul c.div) c.taken; omega
  obtain ⟨m1, m2⟩ := bus_mul h.bus
  obtain ⟨h1, h2, h3, h4, h5⟩ := h.bus
  go_enter Try.func26, Try.ntmps26
  go_wp2
  go_ret
  exact ⟨ret_int (by unfold instr xfer; rfl), (Below.refl _ _).alloc (Nat.le_refl _) _⟩

set_option maxHeartbeats 2000000 in
theorem rreload (c : Cfg) (w : World) (h : CfgOK c) : Calls Try.prog 12 #[c.v] w fun e w' => e = .returned (.int .i64 (reload c)) ∧ Below w.heap.size w w' := by
  unfold Cfg.v
  obtain ⟨x1, x2⟩ := xfer_bounds h.bus
  obtain ⟨a1, a2⟩ := lines_bounds h.icache
  obtain ⟨b1, b2⟩ := lines_bounds h.dcache
  obtain ⟨r1, r2⟩ := reload_bounds h
  unfold reload at r1 r2
  go_enter Try.func12, Try.ntmps12
  go_wp2_with fail
  have HB := hid_alloc (o := .cells #[.int .i64 c.cores, .int .i64 c.slot, .int .i64 c.transfer, .int .i64 c.mul, .int .i64 c.div, .int .i64 c.taken, .int .i64 c.hazard, .int .i64 c.isets, .int .i64 c.iways, .int .i64 c.iline, .int .i64 c.dsets, .int .i64 c.dways, .int .i64 c.dline, .int .i64 c.quantum, .int .i64 c.kernel] 27) (hid_refl w)
  (refine wp_region_since (by kernel_rfl) (by kernel_rfl) ?_; (repeat (go_big_quiet_step ((go_at_call 25; exact since_below (rtransfer c _ h.bus))))); refine wpQuiet_nil ?_; intro w1 hb; have HB := hb_next (w := w) (by repeat (first | (with_reducible assumption) | exact hid_refl _ | apply hid_alloc | apply hid_drew | apply hid_drewN)) hb; have ⟨hc, hf⟩ := bcell hb; have hk := bblk hb; have hz : w.heap.size < w1.heap.size := (by have h1 := hb.size; (try simp at h1); omega); clear hb)
  go_wp2
  go_ret
  exact ⟨ret_int (by unfold reload; rfl), HB.out⟩

set_option maxHeartbeats 2000000 in
theorem ruseful (c : Cfg) (s : Int) (w : World) (h : CfgOK c) (hs : inCyc s) : Calls Try.prog 14 #[c.v, .int .i64 s] w fun e w' => e = .returned (.int .i64 (useful c s)) ∧ Below w.heap.size w w' := by
  obtain ⟨z1, z2⟩ := zone_bounds h hs
  obtain ⟨i1, i2⟩ := instr_bounds h
  obtain ⟨_, _, _, _, q1, q2, k1, k2⟩ := id h
  by_cases hl : instr c < c.cores * s
  · have HF := Lib.hid (show useful c s = c.quantum - c.kernel - c.cores * s by unfold useful mx; rw [if_pos hl])
    unfold Cfg.v
    go_enter Try.func14, Try.ntmps14
    go_wp2_with (go_at_call 26; (with_reducible refine (rinstr c _ h).mono ?_); rintro e w1 ⟨rfl, hb⟩; have HB := hb_next (w := w) (by repeat (first | (with_reducible assumption) | exact hid_refl _ | apply hid_alloc | apply hid_drew | apply hid_drewN)) hb; have ⟨hc, hf⟩ := bcell hb; have hk := bblk hb; have hz : w.heap.size < w1.heap.size := (by have h1 := hb.size; (try simp at h1); omega); clear hb)
    go_ret
    exact ⟨ret_int HF.out.symm, HB.out⟩
  · have HF := Lib.hid (show useful c s = c.quantum - c.kernel - instr c by unfold useful mx; rw [if_neg hl])
    unfold Cfg.v
    go_enter Try.func14, Try.ntmps14
    go_wp2_with (go_at_call 26; (with_reducible refine (rinstr c _ h).mono ?_); rintro e w1 ⟨rfl, hb⟩; have HB := hb_next (w := w) (by repeat (first | (with_reducible assumption) | exact hid_refl _ | apply hid_alloc | apply hid_drew | apply hid_drewN)) hb; have ⟨hc, hf⟩ := bcell hb; have hk := bblk hb; have hz : w.heap.size < w1.heap.size := (by have h1 := hb.size; (try simp at h1); omega); clear hb)
    go_ret
    exact ⟨ret_int HF.out.symm, HB.out⟩

/-- The reference's quanta; 0: there are none. -/
def rq (c : Cfg) (cyc s : Int) : Int := if useful c s ≤ reload c then 0 else if cyc ≤ useful c s then 1 else (cyc - reload c + useful c s - reload c - 1) / (useful c s - reload c)

set_option maxHeartbeats 4000000 in
theorem rquanta (c : Cfg) (cyc s : Int) (w : World) (h : CfgOK c) (hc : inCyc cyc) (hs : inCyc s) : Calls Try.prog 15 #[c.v, .int .i64 cyc, .int .i64 s] w fun e w' => e = .returned (.int .i64 (rq c cyc s)) ∧ Below w.heap.size w w' := by
  obtain ⟨r1, r2⟩ := reload_bounds h
  obtain ⟨u1, u2⟩ := useful_bounds h hs
  obtain ⟨c1, c2⟩ := hc
  by_cases h3 : useful c s ≤ reload c
  · have HF := Lib.hid (show rq c cyc s = 0 by unfold rq; rw [if_pos h3])
    unfold Cfg.v
    go_enter Try.func15, Try.ntmps15
    go_wp2_with fail
    have HB := hid_alloc (o := .cells #[.int .i64 c.cores, .int .i64 c.slot, .int .i64 c.transfer, .int .i64 c.mul, .int .i64 c.div, .int .i64 c.taken, .int .i64 c.hazard, .int .i64 c.isets, .int .i64 c.iways, .int .i64 c.iline, .int .i64 c.dsets, .int .i64 c.dways, .int .i64 c.dline, .int .i64 c.quantum, .int .i64 c.kernel] 27) (hid_refl w)
    (refine wp_region_since (by kernel_rfl) (by kernel_rfl) ?_; (repeat (go_big_quiet_step ((first | (go_at_call 14; exact since_below (ruseful c s _ h hs)) | (go_at_call 12; exact since_below (rreload c _ h)))))); refine wpQuiet_nil ?_; intro w1 hb; have HB := hb_next (w := w) (by repeat (first | (with_reducible assumption) | exact hid_refl _ | apply hid_alloc | apply hid_drew | apply hid_drewN)) hb; have ⟨hc, hf⟩ := bcell hb; have hk := bblk hb; have hz : w.heap.size < w1.heap.size := (by have h1 := hb.size; (try simp at h1); omega); clear hb)
    go_wp2
    go_ret
    exact ⟨ret_int HF.out.symm, HB.out⟩
  · by_cases h4 : cyc ≤ useful c s
    · have HF := Lib.hid (show rq c cyc s = 1 by unfold rq; rw [if_neg h3, if_pos h4])
      unfold Cfg.v
      go_enter Try.func15, Try.ntmps15
      go_wp2_with fail
      have HB := hid_alloc (o := .cells #[.int .i64 c.cores, .int .i64 c.slot, .int .i64 c.transfer, .int .i64 c.mul, .int .i64 c.div, .int .i64 c.taken, .int .i64 c.hazard, .int .i64 c.isets, .int .i64 c.iways, .int .i64 c.iline, .int .i64 c.dsets, .int .i64 c.dways, .int .i64 c.dline, .int .i64 c.quantum, .int .i64 c.kernel] 27) (hid_refl w)
      (refine wp_region_since (by kernel_rfl) (by kernel_rfl) ?_; (repeat (go_big_quiet_step ((first | (go_at_call 14; exact since_below (ruseful c s _ h hs)) | (go_at_call 12; exact since_below (rreload c _ h)))))); refine wpQuiet_nil ?_; intro w1 hb; have HB := hb_next (w := w) (by repeat (first | (with_reducible assumption) | exact hid_refl _ | apply hid_alloc | apply hid_drew | apply hid_drewN)) hb; have ⟨hc, hf⟩ := bcell hb; have hk := bblk hb; have hz : w.heap.size < w1.heap.size := (by have h1 := hb.size; (try simp at h1); omega); clear hb)
      go_wp2
      go_ret
      exact ⟨ret_int HF.out.symm, HB.out⟩
    · have HF := Lib.hid (show rq c cyc s = (cyc - reload c + useful c s - reload c - 1) / (useful c s - reload c) by unfold rq; rw [if_neg h3, if_neg h4])
      unfold Cfg.v
      go_enter Try.func15, Try.ntmps15
      go_wp2_with fail
      have HB := hid_alloc (o := .cells #[.int .i64 c.cores, .int .i64 c.slot, .int .i64 c.transfer, .int .i64 c.mul, .int .i64 c.div, .int .i64 c.taken, .int .i64 c.hazard, .int .i64 c.isets, .int .i64 c.iways, .int .i64 c.iline, .int .i64 c.dsets, .int .i64 c.dways, .int .i64 c.dline, .int .i64 c.quantum, .int .i64 c.kernel] 27) (hid_refl w)
      (refine wp_region_since (by kernel_rfl) (by kernel_rfl) ?_; (repeat (go_big_quiet_step ((first | (go_at_call 14; exact since_below (ruseful c s _ h hs)) | (go_at_call 12; exact since_below (rreload c _ h)))))); refine wpQuiet_nil ?_; intro w1 hb; have HB := hb_next (w := w) (by repeat (first | (with_reducible assumption) | exact hid_refl _ | apply hid_alloc | apply hid_drew | apply hid_drewN)) hb; have ⟨hc, hf⟩ := bcell hb; have hk := bblk hb; have hz : w.heap.size < w1.heap.size := (by have h1 := hb.size; (try simp at h1); omega); clear hb)
      go_wp2
      go_ret
      exact ⟨ret_int HF.out.symm, HB.out⟩

/-- The two texts' quanta are one. -/
theorem rq_eq {c : Cfg} {cyc s : Int} (h : CfgOK c) (hc : inCyc cyc) (hs : inCyc s) : rq c cyc s = if useful c s ≤ reload c then 0 else quantaV c cyc s := by
  obtain ⟨r1, r2⟩ := reload_bounds h
  obtain ⟨c1, c2⟩ := hc
  unfold rq
  by_cases h3 : useful c s ≤ reload c
  · rw [if_pos h3, if_pos h3]
  · rw [if_neg h3, if_neg h3]
    unfold quantaV
    generalize useful c s = u at *
    generalize reload c = r at *
    have hg : 0 < u - r := by omega
    by_cases h4 : cyc ≤ u
    · rw [if_pos h4]
      have h5 : (cyc - r + (u - r) - 1).tdiv (u - r) ≤ 1 := by
        rcases Int.le_total 0 (cyc - r + (u - r) - 1) with h6 | h6
        · rw [Int.tdiv_eq_ediv_of_nonneg h6]
          have : (cyc - r + (u - r) - 1) / (u - r) < 2 := Int.ediv_lt_of_lt_mul hg (by omega)
          omega
        · have h7 : 0 ≤ (-(cyc - r + (u - r) - 1)).tdiv (u - r) := Int.tdiv_nonneg (by omega) (by omega)
          rw [Int.neg_tdiv] at h7
          omega
      unfold mx
      rw [if_neg (by omega)]
    · rw [if_neg h4]
      have h6 : 0 ≤ cyc - r + (u - r) - 1 := by omega
      rw [Int.tdiv_eq_ediv_of_nonneg h6]
      have h7 : cyc - r + u - r - 1 = cyc - r + (u - r) - 1 := by omega
      rw [h7]
      have h8 : 1 ≤ (cyc - r + (u - r) - 1) / (u - r) := by
        rw [Int.le_ediv_iff_mul_le hg]
        omega
      unfold mx
      by_cases h9 : 1 < (cyc - r + (u - r) - 1) / (u - r)
      · rw [if_pos h9]
      · rw [if_neg h9]; omega

/-- The configuration of the example. -/
def smp : Cfg := ⟨1, 4, 2, 0, 0, 0, 0, 1, 1, 4, 1, 1, 1, 100, 10⟩
theorem smp_wf : smp.wf := by unfold Cfg.wf smp; decide
theorem smp_ok : macOK smp = true := by decide +kernel
theorem smp_q1 : quantaS smp 83 0 = (1, 0) := by decide +kernel
theorem smp_q2 : quantaS smp 84 0 = (2, 0) := by decide +kernel
theorem smp_q3 : quantaS smp 160 0 = (2, 0) := by decide +kernel
theorem smp_q4 : quantaS smp 161 0 = (3, 0) := by decide +kernel
theorem smp_r : reloadS smp = 6 := by decide +kernel
theorem smp_u : usefulS smp 0 = 83 := by decide +kernel
theorem smp_z : zoneS smp 4 = 4 := by decide +kernel

set_option maxHeartbeats 2000000 in
theorem sample_c (w : World) : Calls Try.prog 19 #[] w fun e w' => e = .returned smp.v ∧ Below w.heap.size w w' := by
  go_enter Try.func19, Try.ntmps19
  go_wp2
  exact bodyPost_ret (results_cell_row (P := Try.prog) rfl _ _ w.heap.size 27 _ (0, 0) _ rfl (heap_alloc_new _ _) Try.underlying27 rfl (by kernel_rfl)) rfl ⟨rfl, (Below.refl _ _).alloc (Nat.le_refl _) _⟩

set_option maxHeartbeats 8000000 in
theorem awake_c (w : World) : Calls Try.prog 6 #[] w fun e w' => e = .returned (.bool true) ∧ Below w.heap.size w w' := by
  have e1 := smp_q1
  have e2 := smp_q2
  have e3 := smp_q3
  have e4 := smp_q4
  have e5 := smp_r
  have e6 := smp_u
  have e7 := smp_z
  go_enter Try.func6, Try.ntmps6
  go_wp2_with (first | (go_at_call 19; (with_reducible refine (sample_c _).mono ?_); rintro e w1 ⟨rfl, hb⟩; have HB := hb_next (w := w) (by repeat (first | (with_reducible assumption) | exact hid_refl _ | apply hid_alloc | apply hid_drew | apply hid_drewN)) hb; have ⟨hc, hf⟩ := bcell hb; have hk := bblk hb; clear hb) | (go_at_call 7; (with_reducible refine (quanta_c smp _ _ _ smp_wf).mono ?_); rintro e w1 ⟨rfl, hb⟩; have HB := hb_next (w := w) (by repeat (first | (with_reducible assumption) | exact hid_refl _ | apply hid_alloc | apply hid_drew | apply hid_drewN)) hb; have ⟨hc, hf⟩ := bcell hb; have hk := bblk hb; clear hb) | (go_at_call 8; (with_reducible refine (reload_c smp _ smp_wf).mono ?_); rintro e w1 ⟨rfl, hb⟩; have HB := hb_next (w := w) (by repeat (first | (with_reducible assumption) | exact hid_refl _ | apply hid_alloc | apply hid_drew | apply hid_drewN)) hb; have ⟨hc, hf⟩ := bcell hb; have hk := bblk hb; clear hb) | (go_at_call 10; (with_reducible refine (useful_c smp _ _ smp_wf).mono ?_); rintro e w1 ⟨rfl, hb⟩; have HB := hb_next (w := w) (by repeat (first | (with_reducible assumption) | exact hid_refl _ | apply hid_alloc | apply hid_drew | apply hid_drewN)) hb; have ⟨hc, hf⟩ := bcell hb; have hk := bblk hb; clear hb) | (go_at_call 9; (with_reducible refine (zone_c smp _ _ smp_wf).mono ?_); rintro e w1 ⟨rfl, hb⟩; have HB := hb_next (w := w) (by repeat (first | (with_reducible assumption) | exact hid_refl _ | apply hid_alloc | apply hid_drew | apply hid_drewN)) hb; have ⟨hc, hf⟩ := bcell hb; have hk := bblk hb; clear hb))
  go_ret
  exact ⟨rfl, HB.out⟩

end Go.Proofs.Ytnlbpfddhdchnaa
