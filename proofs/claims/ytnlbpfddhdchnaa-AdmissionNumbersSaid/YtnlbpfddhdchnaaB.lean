/- Contracts of the functions of admission, and of its reference. -/
import Derived.Test.YtnlbpfddhdchnaaA
set_option linter.unusedVariables false
set_option linter.unusedSimpArgs false
namespace Go.Proofs.Ytnlbpfddhdchnaa
open Go.RowKit

def xfer (c : Cfg) : Int := (c.cores - 1) * c.slot + c.transfer - 1 + c.transfer
theorem bus_mul {c : Cfg} (h : busOK c) : 0 ≤ (c.cores - 1) * c.slot ∧ (c.cores - 1) * c.slot ≤ 3000000 := by
  obtain ⟨h1, h2, h3, h4, h5⟩ := h
  have hs : 0 ≤ c.slot := by omega
  refine ⟨Int.mul_nonneg (by omega) hs, ?_⟩
  have a : (c.cores - 1) * c.slot ≤ 3 * c.slot := Int.mul_le_mul_of_nonneg_right (by omega) hs
  omega
theorem xfer_bounds {c : Cfg} (h : busOK c) : 1 ≤ xfer c ∧ xfer c ≤ 5000000 := by
  have := bus_mul h
  obtain ⟨h1, h2, h3, h4, h5⟩ := h
  unfold xfer
  omega

set_option maxHeartbeats 2000000 in
theorem max_wait (c : Cfg) (w : World) (h : busOK c) : Calls Try.prog 27 #[c.v] w fun e w' => e = .returned (.int .i64 ((c.cores - 1) * c.slot + c.transfer - 1)) ∧ Below w.heap.size w w' := by
  unfold Cfg.v
  obtain ⟨m1, m2⟩ := bus_mul h
  have hd : decide (busOK c) = true := decide_eq_true h
  have hh := h
  obtain ⟨h1, h2, h3, h4, h5⟩ := hh
  go_enter Try.func27, Try.ntmps27
  go_wp2_with (go_at_call 22; (with_reducible refine (bus_valid c _).mono ?_); rintro e w1 ⟨rfl, hb⟩; have HB := hb_next (w := w) (by repeat (first | (with_reducible assumption) | exact hid_refl _ | apply hid_alloc | apply hid_drew | apply hid_drewN)) hb; have ⟨hc, hf⟩ := bcell hb; have hk := bblk hb; have hz : w.heap.size < w1.heap.size := (by have h1 := hb.size; (try simp at h1); omega); clear hb)
  all_goals
    go_ret
    exact ⟨ret_int rfl, HB.out⟩

set_option maxHeartbeats 2000000 in
theorem max_transfer (c : Cfg) (w : World) (h : busOK c) : Calls Try.prog 18 #[c.v] w fun e w' => e = .returned (.int .i64 (xfer c)) ∧ Below w.heap.size w w' := by
  unfold Cfg.v
  obtain ⟨m1, m2⟩ := bus_mul h
  have hd : decide (busOK c) = true := decide_eq_true h
  have hh := h
  obtain ⟨h1, h2, h3, h4, h5⟩ := hh
  go_enter Try.func18, Try.ntmps18
  go_wp2_with (go_at_call 22; (with_reducible refine (bus_valid c _).mono ?_); rintro e w1 ⟨rfl, hb⟩; have HB := hb_next (w := w) (by repeat (first | (with_reducible assumption) | exact hid_refl _ | apply hid_alloc | apply hid_drew | apply hid_drewN)) hb; have ⟨hc, hf⟩ := bcell hb; have hk := bblk hb; have hz : w.heap.size < w1.heap.size := (by have h1 := hb.size; (try simp at h1); omega); clear hb)
  (refine wp_region_since (by kernel_rfl) (by kernel_rfl) ?_; (repeat (go_big_quiet_step ((go_at_call 27; exact since_below (max_wait c _ h))))); refine wpQuiet_nil ?_; intro w1 hb; have HB := hb_next (w := w) (by repeat (first | (with_reducible assumption) | exact hid_refl _ | apply hid_alloc | apply hid_drew | apply hid_drewN)) hb; have ⟨hc, hf⟩ := bcell hb; have hk := bblk hb; have hz : w.heap.size < w1.heap.size := (by have h1 := hb.size; (try simp at h1); omega); clear hb)
  go_wp2
  go_ret
  exact ⟨ret_int rfl, HB.out⟩

def reload (c : Cfg) : Int := (c.isets * c.iways + c.dsets * c.dways) * xfer c
def instr (c : Cfg) : Int := 2 * xfer c + 1 + c.hazard + mx (mx c.mul c.div) c.taken
def useful (c : Cfg) (s : Int) : Int := c.quantum - c.kernel - mx (instr c) (c.cores * s)

structure CfgOK (c : Cfg) : Prop where
  bus : busOK c
  pipe : pipeOK c.mul c.div c.taken c.hazard = true
  icache : cacheOK c.isets c.iways c.iline = true
  dcache : cacheOK c.dsets c.dways c.dline = true
  q1 : 1 ≤ c.quantum
  q2 : c.quantum ≤ 16777216
  k1 : 0 ≤ c.kernel
  k2 : c.kernel ≤ c.quantum
theorem macOK_iff (c : Cfg) : macOK c = true ↔ CfgOK c := by
  constructor
  · intro h
    simp only [macOK, Bool.and_eq_true, decide_eq_true_eq] at h
    obtain ⟨a, b, d, e, f, g, i, j⟩ := h
    exact ⟨a, b, d, e, f, g, i, j⟩
  · intro ⟨a, b, d, e, f, g, i, j⟩
    simp only [macOK, Bool.and_eq_true, decide_eq_true_eq]
    exact ⟨a, b, d, e, f, g, i, j⟩

theorem lines_bounds {s wy l : Int} (h : cacheOK s wy l = true) : 1 ≤ s * wy ∧ s * wy ≤ 512 := by
  obtain ⟨a, b, c, d⟩ := cacheOK_bounds h
  constructor
  · have h1 : 1 * 1 ≤ s * wy := Int.mul_le_mul a c (by omega) (by omega)
    omega
  · have h1 : s * wy ≤ 64 * 8 := Int.mul_le_mul b d (by omega) (by omega)
    omega
theorem reload_bounds {c : Cfg} (h : CfgOK c) : 2 ≤ reload c ∧ reload c ≤ 5120000000 := by
  obtain ⟨a, b⟩ := lines_bounds h.icache
  obtain ⟨d, e⟩ := lines_bounds h.dcache
  obtain ⟨x1, x2⟩ := xfer_bounds h.bus
  unfold reload
  constructor
  · have h1 : 2 * 1 ≤ (c.isets * c.iways + c.dsets * c.dways) * xfer c := Int.mul_le_mul (by omega) x1 (by omega) (by omega)
    omega
  · have h1 : (c.isets * c.iways + c.dsets * c.dways) * xfer c ≤ 1024 * 5000000 := Int.mul_le_mul (by omega) x2 (by omega) (by omega)
    omega
theorem instr_bounds {c : Cfg} (h : CfgOK c) : 3 ≤ instr c ∧ instr c ≤ 10002001 := by
  obtain ⟨x1, x2⟩ := xfer_bounds h.bus
  obtain ⟨p1, p2, p3, p4, p5, p6, p7, p8⟩ := pipeOK_bounds h.pipe
  have h1 := mx_le (mx c.mul c.div) c.taken
  have h2 := mx_lt (mx_lt p2 p4) p6
  unfold instr
  omega
theorem zone_bounds {c : Cfg} {s : Int} (h : CfgOK c) (hs : inCyc s) : 0 ≤ c.cores * s ∧ c.cores * s ≤ 4398046511104 := by
  obtain ⟨h1, h2, _⟩ := h.bus
  obtain ⟨s1, s2⟩ := hs
  refine ⟨Int.mul_nonneg (by omega) s1, ?_⟩
  have h3 : c.cores * s ≤ 4 * 1099511627776 := Int.mul_le_mul h2 s2 s1 (by omega)
  omega
theorem useful_bounds {c : Cfg} {s : Int} (h : CfgOK c) (hs : inCyc s) : -4398063288320 ≤ useful c s ∧ useful c s ≤ 16777216 := by
  have a := instr_bounds h
  have b := zone_bounds h hs
  have d := mx_le (instr c) (c.cores * s)
  have e : mx (instr c) (c.cores * s) ≤ 4398046511104 := mx_lt (by omega) b.2
  obtain ⟨_, _, _, _, q1, q2, k1, k2⟩ := h
  unfold useful
  omega

set_option maxHeartbeats 2000000 in
theorem flush_c (s wy l : Int) (w : World) (h : cacheOK s wy l = true) (h1 : s ≤ 9223372036854775807) (h2 : l ≤ 9223372036854775807) :
    Calls Try.prog 17 #[.agg #[.int .i64 s, .int .i64 wy, .int .i64 l]] w fun e w' => e = .returned (.int .i64 (s * wy)) ∧ Below w.heap.size w w' := by
  obtain ⟨a, b⟩ := lines_bounds h
  go_enter Try.func17, Try.ntmps17
  go_wp2_with (go_at_call 24; (with_reducible refine (cache_valid _ _ _ _ (by assumption) (by assumption)).mono ?_); rintro e w1 ⟨rfl, hb⟩; have HB := hb_next (w := w) (by repeat (first | (with_reducible assumption) | exact hid_refl _ | apply hid_alloc | apply hid_drew | apply hid_drewN)) hb; have ⟨hc, hf⟩ := bcell hb; have hk := bblk hb; have hz : w.heap.size < w1.heap.size := (by have h1 := hb.size; (try simp at h1); omega); clear hb)
  all_goals
    go_ret
    exact ⟨ret_int rfl, HB.out⟩

set_option maxHeartbeats 2000000 in
theorem instr_c (c : Cfg) (w : World) (hw : c.wf) (h : CfgOK c) : Calls Try.prog 21 #[c.v] w fun e w' => e = .returned (.int .i64 (instr c)) ∧ Below w.heap.size w w' := by
  unfold Cfg.v
  have hv := (macOK_iff c).2 h
  obtain ⟨x1, x2⟩ := xfer_bounds h.bus
  obtain ⟨p1, p2, p3, p4, p5, p6, p7, p8⟩ := pipeOK_bounds h.pipe
  have y2 := mx_lt (mx_lt p2 p4) p6
  have y1 : 0 ≤ mx (mx c.mul c.div) c.taken := by have := mx_le (mx c.mul c.div) c.taken; omega
  go_enter Try.func21, Try.ntmps21
  go_wp2_with (go_at_call 11; (with_reducible refine (machine_valid c _ hw).mono ?_); rintro e w1 ⟨rfl, hb⟩; have HB := hb_next (w := w) (by repeat (first | (with_reducible assumption) | exact hid_refl _ | apply hid_alloc | apply hid_drew | apply hid_drewN)) hb; have ⟨hc, hf⟩ := bcell hb; have hk := bblk hb; have hz : w.heap.size < w1.heap.size := (by have h1 := hb.size; (try simp at h1); omega); clear hb)
  (refine wp_region_since (by kernel_rfl) (by kernel_rfl) ?_; (repeat (go_big_quiet_step ((go_at_call 18; exact since_below (max_transfer c _ h.bus))))); refine wpQuiet_nil ?_; intro w1 hb; have HB := hb_next (w := w) (by repeat (first | (with_reducible assumption) | exact hid_refl _ | apply hid_alloc | apply hid_drew | apply hid_drewN)) hb; have ⟨hc, hf⟩ := bcell hb; have hk := bblk hb; have hz : w.heap.size < w1.heap.size := (by have h1 := hb.size; (try simp at h1); omega); clear hb)
  go_wp2
  go_ret
  exact ⟨ret_int (by unfold instr; rfl), HB.out⟩

/-- The results for a configuration that is not valid are 0. -/
def reloadS (c : Cfg) : Int := if macOK c = true then reload c else 0
def zoneS (c : Cfg) (s : Int) : Int := if macOK c = true ∧ inCyc s then c.cores * s else 0
def usefulS (c : Cfg) (s : Int) : Int := if macOK c = true ∧ inCyc s then useful c s else 0

set_option maxHeartbeats 2000000 in
theorem reload_c (c : Cfg) (w : World) (hw : c.wf) : Calls Try.prog 8 #[c.v] w fun e w' => e = .returned (.int .i64 (reloadS c)) ∧ Below w.heap.size w w' := by
  by_cases hv : macOK c = true
  · have h := (macOK_iff c).1 hv
    have hf : reloadS c = reload c := by simp [reloadS, hv]
    have HF := Lib.hid hf
    clear hf
    obtain ⟨x1, x2⟩ := xfer_bounds h.bus
    obtain ⟨a1, a2⟩ := lines_bounds h.icache
    obtain ⟨b1, b2⟩ := lines_bounds h.dcache
    obtain ⟨r1, r2⟩ := reload_bounds h
    unfold reload at r1 r2
    obtain ⟨h1, h2, h3, h4⟩ := hw
    have hw : c.wf := ⟨h1, h2, h3, h4⟩
    have hi := h.icache
    have hd := h.dcache
    unfold Cfg.v
    go_enter Try.func8, Try.ntmps8
    go_wp2_with (go_at_call 11; (with_reducible refine (machine_valid c _ hw).mono ?_); rintro e w1 ⟨rfl, hb⟩; have HB := hb_next (w := w) (by repeat (first | (with_reducible assumption) | exact hid_refl _ | apply hid_alloc | apply hid_drew | apply hid_drewN)) hb; have ⟨hc, hf⟩ := bcell hb; have hk := bblk hb; have hz : w.heap.size < w1.heap.size := (by have h1 := hb.size; (try simp at h1); omega); clear hb)
    (refine wp_region_since (by kernel_rfl) (by kernel_rfl) ?_; (repeat (go_big_quiet_step ((first | (go_at_call 18; exact since_below (max_transfer c _ h.bus)) | (go_at_call 17; exact since_below (flush_c _ _ _ _ (by assumption) (by assumption) (by assumption))))))); refine wpQuiet_nil ?_; intro w1 hb; have HB := hb_next (w := w) (by repeat (first | (with_reducible assumption) | exact hid_refl _ | apply hid_alloc | apply hid_drew | apply hid_drewN)) hb; have ⟨hc, hf⟩ := bcell hb; have hk := bblk hb; have hz : w.heap.size < w1.heap.size := (by have h1 := hb.size; (try simp at h1); omega); clear hb)
    go_wp2
    go_ret
    exact ⟨ret_int (by rw [HF.out]; unfold reload; rfl), HB.out⟩
  · have hf : reloadS c = 0 := by simp [reloadS, hv]
    have HF := Lib.hid hf
    clear hf
    have hv2 : macOK c = false := by simpa using hv
    unfold Cfg.v
    go_enter Try.func8, Try.ntmps8
    go_wp2_with (go_at_call 11; (with_reducible refine (machine_valid c _ hw).mono ?_); rintro e w1 ⟨rfl, hb⟩; have HB := hb_next (w := w) (by repeat (first | (with_reducible assumption) | exact hid_refl _ | apply hid_alloc | apply hid_drew | apply hid_drewN)) hb; have ⟨hc, hf⟩ := bcell hb; have hk := bblk hb; have hz : w.heap.size < w1.heap.size := (by have h1 := hb.size; (try simp at h1); omega); clear hb)
    go_ret
    exact ⟨ret_int (by rw [HF.out]), HB.out⟩

set_option maxHeartbeats 2000000 in
theorem zone_c (c : Cfg) (s : Int) (w : World) (hw : c.wf) : Calls Try.prog 9 #[c.v, .int .i64 s] w fun e w' => e = .returned (.int .i64 (zoneS c s)) ∧ Below w.heap.size w w' := by
  by_cases hv : macOK c = true
  · by_cases hs : inCyc s
    · have h := (macOK_iff c).1 hv
      have hf : zoneS c s = c.cores * s := by simp [zoneS, hv, hs]
      have HF := Lib.hid hf
      clear hf
      obtain ⟨z1, z2⟩ := zone_bounds h hs
      unfold Cfg.v
      go_enter Try.func9, Try.ntmps9
      go_wp2_with (first | (go_at_call 11; (with_reducible refine (machine_valid c _ hw).mono ?_); rintro e w1 ⟨rfl, hb⟩; have HB := hb_next (w := w) (by repeat (first | (with_reducible assumption) | exact hid_refl _ | apply hid_alloc | apply hid_drew | apply hid_drewN)) hb; have ⟨hc, hf⟩ := bcell hb; have hk := bblk hb; have hz : w.heap.size < w1.heap.size := (by have h1 := hb.size; (try simp at h1); omega); clear hb) | (go_at_call 20; (with_reducible refine (count_c _ _).mono ?_); rintro e w1 ⟨rfl, rfl⟩))
      go_ret
      exact ⟨ret_int (by rw [HF.out]), HB.out⟩
    · have hf : zoneS c s = 0 := by simp [zoneS, hs]
      have HF := Lib.hid hf
      clear hf
      unfold Cfg.v
      go_enter Try.func9, Try.ntmps9
      go_wp2_with (first | (go_at_call 11; (with_reducible refine (machine_valid c _ hw).mono ?_); rintro e w1 ⟨rfl, hb⟩; have HB := hb_next (w := w) (by repeat (first | (with_reducible assumption) | exact hid_refl _ | apply hid_alloc | apply hid_drew | apply hid_drewN)) hb; have ⟨hc, hf⟩ := bcell hb; have hk := bblk hb; have hz : w.heap.size < w1.heap.size := (by have h1 := hb.size; (try simp at h1); omega); clear hb) | (go_at_call 20; (with_reducible refine (count_c _ _).mono ?_); rintro e w1 ⟨rfl, rfl⟩))
      go_ret
      exact ⟨ret_int (by rw [HF.out]), HB.out⟩
  · have hf : zoneS c s = 0 := by simp [zoneS, hv]
    have HF := Lib.hid hf
    clear hf
    have hv2 : macOK c = false := by simpa using hv
    unfold Cfg.v
    go_enter Try.func9, Try.ntmps9
    go_wp2_with (first | (go_at_call 11; (with_reducible refine (machine_valid c _ hw).mono ?_); rintro e w1 ⟨rfl, hb⟩; have HB := hb_next (w := w) (by repeat (first | (with_reducible assumption) | exact hid_refl _ | apply hid_alloc | apply hid_drew | apply hid_drewN)) hb; have ⟨hc, hf⟩ := bcell hb; have hk := bblk hb; have hz : w.heap.size < w1.heap.size := (by have h1 := hb.size; (try simp at h1); omega); clear hb) | (go_at_call 20; (with_reducible refine (count_c _ _).mono ?_); rintro e w1 ⟨rfl, rfl⟩))
    go_ret
    exact ⟨ret_int (by rw [HF.out]), HB.out⟩

theorem macOK_no {c : Cfg} (hv : ¬ macOK c = true) : macOK c = false := by simpa using hv
theorem zoneS_ok {c : Cfg} {s : Int} (hv : macOK c = true) (hs : inCyc s) : zoneS c s = c.cores * s := by simp [zoneS, hv, hs]
theorem zoneS_no {c : Cfg} {s : Int} (hv : ¬ (macOK c = true ∧ inCyc s)) : zoneS c s = 0 := by simp only [zoneS, if_neg hv]
theorem usefulS_ok {c : Cfg} {s : Int} (hv : macOK c = true) (hs : inCyc s) : usefulS c s = useful c s := by simp [usefulS, hv, hs]
theorem usefulS_no {c : Cfg} {s : Int} (hv : ¬ (macOK c = true ∧ inCyc s)) : usefulS c s = 0 := by simp only [usefulS, if_neg hv]
theorem reloadS_ok {c : Cfg} (hv : macOK c = true) : reloadS c = reload c := by simp [reloadS, hv]
theorem reloadS_no {c : Cfg} (hv : ¬ macOK c = true) : reloadS c = 0 := by simp only [reloadS, if_neg hv]

set_option maxHeartbeats 2000000 in
theorem useful_c (c : Cfg) (s : Int) (w : World) (hw : c.wf) : Calls Try.prog 10 #[c.v, .int .i64 s] w fun e w' => e = .returned (.int .i64 (usefulS c s)) ∧ Below w.heap.size w w' := by
  by_cases hv : macOK c = true
  · by_cases hs : inCyc s
    · have h := (macOK_iff c).1 hv
      have hz0 := zoneS_ok hv hs
      have HF := Lib.hid (usefulS_ok hv hs)
      obtain ⟨z1, z2⟩ := zone_bounds h hs
      obtain ⟨i1, i2⟩ := instr_bounds h
      have b2 : mx (instr c) (c.cores * s) ≤ 4398046511104 := mx_lt (by omega) z2
      have b1 : 0 ≤ mx (instr c) (c.cores * s) := by have := mx_le (instr c) (c.cores * s); omega
      obtain ⟨_, _, _, _, q1, q2, k1, k2⟩ := id h
      unfold Cfg.v
      go_enter Try.func10, Try.ntmps10
      go_wp2_with (first | (go_at_call 11; (with_reducible refine (machine_valid c _ hw).mono ?_); rintro e w1 ⟨rfl, hb⟩; have HB := hb_next (w := w) (by repeat (first | (with_reducible assumption) | exact hid_refl _ | apply hid_alloc | apply hid_drew | apply hid_drewN)) hb; have ⟨hc, hf⟩ := bcell hb; have hk := bblk hb; have hz : w.heap.size < w1.heap.size := (by have h1 := hb.size; (try simp at h1); omega); clear hb) | (go_at_call 20; (with_reducible refine (count_c _ _).mono ?_); rintro e w1 ⟨rfl, rfl⟩))
      (refine wp_region_since (by kernel_rfl) (by kernel_rfl) ?_; (repeat (go_big_quiet_step ((first | (go_at_call 21; exact since_below (instr_c c _ hw h)) | (go_at_call 9; exact since_below (zone_c c s _ hw)))))); refine wpQuiet_nil ?_; intro w1 hb; have HB := hb_next (w := w) (by repeat (first | (with_reducible assumption) | exact hid_refl _ | apply hid_alloc | apply hid_drew | apply hid_drewN)) hb; have ⟨hc, hf⟩ := bcell hb; have hk := bblk hb; have hz : w.heap.size < w1.heap.size := (by have h1 := hb.size; (try simp at h1); omega); clear hb)
      go_wp2
      go_ret
      exact ⟨ret_int (by rw [HF.out]; unfold useful; rfl), HB.out⟩
    · have HF := Lib.hid (usefulS_no (c := c) (s := s) (fun h => hs h.2))
      unfold Cfg.v
      go_enter Try.func10, Try.ntmps10
      go_wp2_with (first | (go_at_call 11; (with_reducible refine (machine_valid c _ hw).mono ?_); rintro e w1 ⟨rfl, hb⟩; have HB := hb_next (w := w) (by repeat (first | (with_reducible assumption) | exact hid_refl _ | apply hid_alloc | apply hid_drew | apply hid_drewN)) hb; have ⟨hc, hf⟩ := bcell hb; have hk := bblk hb; have hz : w.heap.size < w1.heap.size := (by have h1 := hb.size; (try simp at h1); omega); clear hb) | (go_at_call 20; (with_reducible refine (count_c _ _).mono ?_); rintro e w1 ⟨rfl, rfl⟩))
      go_ret
      exact ⟨ret_int (by rw [HF.out]), HB.out⟩
  · have HF := Lib.hid (usefulS_no (c := c) (s := s) (fun h => hv h.1))
    have hv2 := macOK_no hv
    unfold Cfg.v
    go_enter Try.func10, Try.ntmps10
    go_wp2_with (first | (go_at_call 11; (with_reducible refine (machine_valid c _ hw).mono ?_); rintro e w1 ⟨rfl, hb⟩; have HB := hb_next (w := w) (by repeat (first | (with_reducible assumption) | exact hid_refl _ | apply hid_alloc | apply hid_drew | apply hid_drewN)) hb; have ⟨hc, hf⟩ := bcell hb; have hk := bblk hb; have hz : w.heap.size < w1.heap.size := (by have h1 := hb.size; (try simp at h1); omega); clear hb) | (go_at_call 20; (with_reducible refine (count_c _ _).mono ?_); rintro e w1 ⟨rfl, rfl⟩))
    go_ret
    exact ⟨ret_int (by rw [HF.out]), HB.out⟩

/-- The quanta and the error. -/
def quantaV (c : Cfg) (cyc s : Int) : Int := mx 1 ((cyc - reload c + (useful c s - reload c) - 1).tdiv (useful c s - reload c))
def quantaS (c : Cfg) (cyc s : Int) : Int × Int :=
  if macOK c = true then (if inCyc cyc ∧ inCyc s then (if useful c s ≤ reload c then (0, 20) else (quantaV c cyc s, 0)) else (0, 2)) else (0, 1)
theorem quantaS_arg {c : Cfg} {cyc s : Int} (h : ¬ macOK c = true) : quantaS c cyc s = (0, 1) := by simp only [quantaS, if_neg h]
theorem quantaS_range {c : Cfg} {cyc s : Int} (h : macOK c = true) (h2 : ¬ (inCyc cyc ∧ inCyc s)) : quantaS c cyc s = (0, 2) := by simp only [quantaS, if_pos h, if_neg h2]
theorem quantaS_load {c : Cfg} {cyc s : Int} (h : macOK c = true) (h2 : inCyc cyc ∧ inCyc s) (h3 : useful c s ≤ reload c) : quantaS c cyc s = (0, 20) := by simp only [quantaS, if_pos h, if_pos h2, if_pos h3]
theorem quantaS_ok {c : Cfg} {cyc s : Int} (h : macOK c = true) (h2 : inCyc cyc ∧ inCyc s) (h3 : ¬ useful c s ≤ reload c) : quantaS c cyc s = (quantaV c cyc s, 0) := by simp only [quantaS, if_pos h, if_pos h2, if_neg h3]

theorem ret_pair {a b : Int} {p : Int × Int} (h : p = (a, b)) : Ending.returned (.tuple #[.int .i64 a, .int .i64 b]) = .returned (.tuple #[.int .i64 p.1, .int .i64 p.2]) := by rw [h]

set_option maxHeartbeats 4000000 in
theorem quanta_c (c : Cfg) (cyc s : Int) (w : World) (hw : c.wf) : Calls Try.prog 7 #[c.v, .int .i64 cyc, .int .i64 s] w fun e w' => e = .returned (.tuple #[.int .i64 (quantaS c cyc s).1, .int .i64 (quantaS c cyc s).2]) ∧ Below w.heap.size w w' := by
  by_cases hv : macOK c = true
  · by_cases h1 : inCyc cyc
    · by_cases h2 : inCyc s
      · have h := (macOK_iff c).1 hv
        have hr0 := reloadS_ok hv
        have hu0 := usefulS_ok hv h2
        obtain ⟨r1, r2⟩ := reload_bounds h
        obtain ⟨u1, u2⟩ := useful_bounds h h2
        obtain ⟨c1, c2⟩ := id h1
        by_cases h3 : useful c s ≤ reload c
        · have HF := Lib.hid (quantaS_load hv ⟨h1, h2⟩ h3)
          unfold Cfg.v
          go_enter Try.func7, Try.ntmps7
          go_wp2_with (first | (go_at_call 11; (with_reducible refine (machine_valid c _ hw).mono ?_); rintro e w1 ⟨rfl, hb⟩; have HB := hb_next (w := w) (by repeat (first | (with_reducible assumption) | exact hid_refl _ | apply hid_alloc | apply hid_drew | apply hid_drewN)) hb; have ⟨hc, hf⟩ := bcell hb; have hk := bblk hb; have hz : w.heap.size < w1.heap.size := (by have h1 := hb.size; (try simp at h1); omega); clear hb) | (go_at_call 20; (with_reducible refine (count_c _ _).mono ?_); rintro e w1 ⟨rfl, rfl⟩))
          (refine wp_region_since (by kernel_rfl) (by kernel_rfl) ?_; (repeat (go_big_quiet_step ((first | (go_at_call 8; exact since_below (reload_c c _ hw)) | (go_at_call 10; exact since_below (useful_c c s _ hw)))))); refine wpQuiet_nil ?_; intro w1 hb; have HB := hb_next (w := w) (by repeat (first | (with_reducible assumption) | exact hid_refl _ | apply hid_alloc | apply hid_drew | apply hid_drewN)) hb; have ⟨hc, hf⟩ := bcell hb; have hk := bblk hb; have hz : w.heap.size < w1.heap.size := (by have h1 := hb.size; (try simp at h1); omega); clear hb)
          go_wp2
          go_ret2
          exact ⟨ret_pair HF.out, HB.out⟩
        · have HF := Lib.hid (quantaS_ok hv ⟨h1, h2⟩ h3)
          unfold Cfg.v
          go_enter Try.func7, Try.ntmps7
          go_wp2_with (first | (go_at_call 11; (with_reducible refine (machine_valid c _ hw).mono ?_); rintro e w1 ⟨rfl, hb⟩; have HB := hb_next (w := w) (by repeat (first | (with_reducible assumption) | exact hid_refl _ | apply hid_alloc | apply hid_drew | apply hid_drewN)) hb; have ⟨hc, hf⟩ := bcell hb; have hk := bblk hb; have hz : w.heap.size < w1.heap.size := (by have h1 := hb.size; (try simp at h1); omega); clear hb) | (go_at_call 20; (with_reducible refine (count_c _ _).mono ?_); rintro e w1 ⟨rfl, rfl⟩))
          (refine wp_region_since (by kernel_rfl) (by kernel_rfl) ?_; (repeat (go_big_quiet_step ((first | (go_at_call 8; exact since_below (reload_c c _ hw)) | (go_at_call 10; exact since_below (useful_c c s _ hw)))))); refine wpQuiet_nil ?_; intro w1 hb; have HB := hb_next (w := w) (by repeat (first | (with_reducible assumption) | exact hid_refl _ | apply hid_alloc | apply hid_drew | apply hid_drewN)) hb; have ⟨hc, hf⟩ := bcell hb; have hk := bblk hb; have hz : w.heap.size < w1.heap.size := (by have h1 := hb.size; (try simp at h1); omega); clear hb)
          go_wp2
          go_ret2
          exact ⟨ret_pair (by rw [HF.out]; unfold quantaV; rfl), HB.out⟩
      · have HF := Lib.hid (quantaS_range (cyc := cyc) (s := s) hv (fun h => h2 h.2))
        unfold Cfg.v
        go_enter Try.func7, Try.ntmps7
        go_wp2_with (first | (go_at_call 11; (with_reducible refine (machine_valid c _ hw).mono ?_); rintro e w1 ⟨rfl, hb⟩; have HB := hb_next (w := w) (by repeat (first | (with_reducible assumption) | exact hid_refl _ | apply hid_alloc | apply hid_drew | apply hid_drewN)) hb; have ⟨hc, hf⟩ := bcell hb; have hk := bblk hb; have hz : w.heap.size < w1.heap.size := (by have h1 := hb.size; (try simp at h1); omega); clear hb) | (go_at_call 20; (with_reducible refine (count_c _ _).mono ?_); rintro e w1 ⟨rfl, rfl⟩))
        go_ret2
        exact ⟨ret_pair HF.out, HB.out⟩
    · have HF := Lib.hid (quantaS_range (cyc := cyc) (s := s) hv (fun h => h1 h.1))
      unfold Cfg.v
      go_enter Try.func7, Try.ntmps7
      go_wp2_with (first | (go_at_call 11; (with_reducible refine (machine_valid c _ hw).mono ?_); rintro e w1 ⟨rfl, hb⟩; have HB := hb_next (w := w) (by repeat (first | (with_reducible assumption) | exact hid_refl _ | apply hid_alloc | apply hid_drew | apply hid_drewN)) hb; have ⟨hc, hf⟩ := bcell hb; have hk := bblk hb; have hz : w.heap.size < w1.heap.size := (by have h1 := hb.size; (try simp at h1); omega); clear hb) | (go_at_call 20; (with_reducible refine (count_c _ _).mono ?_); rintro e w1 ⟨rfl, rfl⟩))
      go_ret2
      exact ⟨ret_pair HF.out, HB.out⟩
  · have HF := Lib.hid (quantaS_arg (cyc := cyc) (s := s) hv)
    have hv2 := macOK_no hv
    unfold Cfg.v
    go_enter Try.func7, Try.ntmps7
    go_wp2_with (first | (go_at_call 11; (with_reducible refine (machine_valid c _ hw).mono ?_); rintro e w1 ⟨rfl, hb⟩; have HB := hb_next (w := w) (by repeat (first | (with_reducible assumption) | exact hid_refl _ | apply hid_alloc | apply hid_drew | apply hid_drewN)) hb; have ⟨hc, hf⟩ := bcell hb; have hk := bblk hb; have hz : w.heap.size < w1.heap.size := (by have h1 := hb.size; (try simp at h1); omega); clear hb) | (go_at_call 20; (with_reducible refine (count_c _ _).mono ?_); rintro e w1 ⟨rfl, rfl⟩))
    go_ret2
    exact ⟨ret_pair HF.out, HB.out⟩

end Go.Proofs.Ytnlbpfddhdchnaa
