/- The walks of AdmissionReload and AdmissionNumbers. -/
import Derived.Test.YtnlbpfddhdchnaaC
set_option linter.unusedVariables false
set_option linter.unusedSimpArgs false
namespace Go.Proofs.Ytnlbpfddhdchnaa
open Go.RowKit

set_option maxHeartbeats 4000000 in
theorem reload_walk (c : Cfg) (w : World) (hw : c.wf) : Calls Try.prog 5 #[c.v] w fun e w' => e = .returned (.bool true) ∧ Below w.heap.size w w' := by
  by_cases hv : macOK c = true
  · have h := (macOK_iff c).1 hv
    have e1 := reloadS_ok hv
    obtain ⟨x1, x2⟩ := xfer_bounds h.bus
    obtain ⟨a1, a2⟩ := lines_bounds h.icache
    obtain ⟨b1, b2⟩ := lines_bounds h.dcache
    obtain ⟨r1, r2⟩ := reload_bounds h
    have he : reload c = (c.isets * c.iways + c.dsets * c.dways) * xfer c := rfl
    obtain ⟨h1, h2, h3, h4⟩ := id hw
    have hi := h.icache
    have hd := h.dcache
    rw [he] at e1 r1 r2
    clear he
    unfold Cfg.v
    go_enter Try.func5, Try.ntmps5
    go_wp2_with (first | (go_at_call 6; (with_reducible refine (awake_c _).mono ?_); rintro e w1 ⟨rfl, hb⟩; have HB := hb_next (w := w) (by repeat (first | (with_reducible assumption) | exact hid_refl _ | apply hid_alloc | apply hid_drew | apply hid_drewN)) hb; have ⟨hc, hf⟩ := bcell hb; have hk := bblk hb; have hz : w.heap.size < w1.heap.size := (by have h1 := hb.size; (try simp at h1); omega); clear hb) | (go_at_call 11; (with_reducible refine (machine_valid c _ hw).mono ?_); rintro e w1 ⟨rfl, hb⟩; have HB := hb_next (w := w) (by repeat (first | (with_reducible assumption) | exact hid_refl _ | apply hid_alloc | apply hid_drew | apply hid_drewN)) hb; have ⟨hc, hf⟩ := bcell hb; have hk := bblk hb; have hz : w.heap.size < w1.heap.size := (by have h1 := hb.size; (try simp at h1); omega); clear hb))
    (refine wp_region_since (by kernel_rfl) (by kernel_rfl) ?_; (repeat (go_big_quiet_step ((first | (go_at_call 18; exact since_below (max_transfer c _ h.bus)) | (go_at_call 17; exact since_below (flush_c _ _ _ _ (by assumption) (by assumption) (by assumption))) | (go_at_call 8; exact since_below (reload_c c _ hw)))))); refine wpQuiet_nil ?_; intro w1 hb; have HB := hb_next (w := w) (by repeat (first | (with_reducible assumption) | exact hid_refl _ | apply hid_alloc | apply hid_drew | apply hid_drewN)) hb; have ⟨hc, hf⟩ := bcell hb; have hk := bblk hb; have hz : w.heap.size < w1.heap.size := (by have h1 := hb.size; (try simp at h1); omega); clear hb)
    go_wp2
    go_ret
    exact ⟨by simp, HB.out⟩
  · have e1 := reloadS_no hv
    have hv2 := macOK_no hv
    unfold Cfg.v
    go_enter Try.func5, Try.ntmps5
    go_wp2_with (first | (go_at_call 6; (with_reducible refine (awake_c _).mono ?_); rintro e w1 ⟨rfl, hb⟩; have HB := hb_next (w := w) (by repeat (first | (with_reducible assumption) | exact hid_refl _ | apply hid_alloc | apply hid_drew | apply hid_drewN)) hb; have ⟨hc, hf⟩ := bcell hb; have hk := bblk hb; have hz : w.heap.size < w1.heap.size := (by have h1 := hb.size; (try simp at h1); omega); clear hb) | (go_at_call 11; (with_reducible refine (machine_valid c _ hw).mono ?_); rintro e w1 ⟨rfl, hb⟩; have HB := hb_next (w := w) (by repeat (first | (with_reducible assumption) | exact hid_refl _ | apply hid_alloc | apply hid_drew | apply hid_drewN)) hb; have ⟨hc, hf⟩ := bcell hb; have hk := bblk hb; have hz : w.heap.size < w1.heap.size := (by have h1 := hb.size; (try simp at h1); omega); clear hb) | (go_at_call 8; (with_reducible refine (reload_c c _ hw).mono ?_); rintro e w1 ⟨rfl, hb⟩; have HB := hb_next (w := w) (by repeat (first | (with_reducible assumption) | exact hid_refl _ | apply hid_alloc | apply hid_drew | apply hid_drewN)) hb; have ⟨hc, hf⟩ := bcell hb; have hk := bblk hb; have hz : w.heap.size < w1.heap.size := (by have h1 := hb.size; (try simp at h1); omega); clear hb))
    go_ret
    exact ⟨by simp, HB.out⟩

theorem quantaV_pos (c : Cfg) (cyc s : Int) : 1 ≤ quantaV c cyc s := (mx_le _ _).1

set_option maxHeartbeats 8000000 in
theorem numbers_walk (c : Cfg) (cyc s : Int) (w : World) (hw : c.wf) : Calls Try.prog 3 #[c.v, .int .i64 cyc, .int .i64 s] w fun e w' => e = .returned (.bool true) ∧ Below w.heap.size w w' := by
  by_cases hv : macOK c = true
  · have h := (macOK_iff c).1 hv
    have e1 := reloadS_ok hv
    by_cases hs : inCyc s
    · have e2 := zoneS_ok hv hs
      have e3 := usefulS_ok hv hs
      obtain ⟨z1, z2⟩ := zone_bounds h hs
      by_cases hcy : inCyc cyc
      · have hrq := rq_eq h hcy hs
        have qp := quantaV_pos c cyc s
        by_cases hl : useful c s ≤ reload c
        · have e4 := quantaS_load hv ⟨hcy, hs⟩ hl
          rw [if_pos hl] at hrq
          unfold Cfg.v
          go_enter Try.func3, Try.ntmps3
          go_wp2_with (first | (go_at_call 6; (with_reducible refine (awake_c _).mono ?_); rintro e w1 ⟨rfl, hb⟩; have HB := hb_next (w := w) (by repeat (first | (with_reducible assumption) | exact hid_refl _ | apply hid_alloc | apply hid_drew | apply hid_drewN)) hb; have ⟨hc, hf⟩ := bcell hb; have hk := bblk hb; have hz : w.heap.size < w1.heap.size := (by have h1 := hb.size; (try simp at h1); omega); clear hb) | (go_at_call 7; (with_reducible refine (quanta_c c _ _ _ hw).mono ?_); rintro e w1 ⟨rfl, hb⟩; have HB := hb_next (w := w) (by repeat (first | (with_reducible assumption) | exact hid_refl _ | apply hid_alloc | apply hid_drew | apply hid_drewN)) hb; have ⟨hc, hf⟩ := bcell hb; have hk := bblk hb; have hz : w.heap.size < w1.heap.size := (by have h1 := hb.size; (try simp at h1); omega); clear hb))
          (refine wp_region_since (by kernel_rfl) (by kernel_rfl) ?_; (repeat (go_big_quiet_step ((first | (go_at_call 8; exact since_below (reload_c c _ hw)) | (go_at_call 9; exact since_below (zone_c c s _ hw)) | (go_at_call 10; exact since_below (useful_c c s _ hw)))))); refine wpQuiet_nil ?_; intro w1 hb; have HB := hb_next (w := w) (by repeat (first | (with_reducible assumption) | exact hid_refl _ | apply hid_alloc | apply hid_drew | apply hid_drewN)) hb; have ⟨hc, hf⟩ := bcell hb; have hk := bblk hb; have hz : w.heap.size < w1.heap.size := (by have h1 := hb.size; (try simp at h1); omega); clear hb)
          go_wp2_with (first | (go_at_call 11; (with_reducible refine (machine_valid c _ hw).mono ?_); rintro e w1 ⟨rfl, hb⟩; have HB := hb_next (w := w) (by repeat (first | (with_reducible assumption) | exact hid_refl _ | apply hid_alloc | apply hid_drew | apply hid_drewN)) hb; have ⟨hc, hf⟩ := bcell hb; have hk := bblk hb; have hz : w.heap.size < w1.heap.size := (by have h1 := hb.size; (try simp at h1); omega); clear hb) | (go_at_call 13; (with_reducible refine (ranged_c _ _).mono ?_); rintro e w1 ⟨rfl, rfl⟩) | (go_at_call 12; (with_reducible refine (rreload c _ h).mono ?_); rintro e w1 ⟨rfl, hb⟩; have HB := hb_next (w := w) (by repeat (first | (with_reducible assumption) | exact hid_refl _ | apply hid_alloc | apply hid_drew | apply hid_drewN)) hb; have ⟨hc, hf⟩ := bcell hb; have hk := bblk hb; have hz : w.heap.size < w1.heap.size := (by have h1 := hb.size; (try simp at h1); omega); clear hb) | (go_at_call 14; (with_reducible refine (ruseful c s _ h hs).mono ?_); rintro e w1 ⟨rfl, hb⟩; have HB := hb_next (w := w) (by repeat (first | (with_reducible assumption) | exact hid_refl _ | apply hid_alloc | apply hid_drew | apply hid_drewN)) hb; have ⟨hc, hf⟩ := bcell hb; have hk := bblk hb; have hz : w.heap.size < w1.heap.size := (by have h1 := hb.size; (try simp at h1); omega); clear hb) | (go_at_call 15; (with_reducible refine (rquanta c cyc s _ h hcy hs).mono ?_); rintro e w1 ⟨rfl, hb⟩; have HB := hb_next (w := w) (by repeat (first | (with_reducible assumption) | exact hid_refl _ | apply hid_alloc | apply hid_drew | apply hid_drewN)) hb; have ⟨hc, hf⟩ := bcell hb; have hk := bblk hb; have hz : w.heap.size < w1.heap.size := (by have h1 := hb.size; (try simp at h1); omega); clear hb))
          go_ret
          exact ⟨by simp, HB.out⟩
        · have e4 := quantaS_ok hv ⟨hcy, hs⟩ hl
          rw [if_neg hl] at hrq
          unfold Cfg.v
          go_enter Try.func3, Try.ntmps3
          go_wp2_with (first | (go_at_call 6; (with_reducible refine (awake_c _).mono ?_); rintro e w1 ⟨rfl, hb⟩; have HB := hb_next (w := w) (by repeat (first | (with_reducible assumption) | exact hid_refl _ | apply hid_alloc | apply hid_drew | apply hid_drewN)) hb; have ⟨hc, hf⟩ := bcell hb; have hk := bblk hb; have hz : w.heap.size < w1.heap.size := (by have h1 := hb.size; (try simp at h1); omega); clear hb) | (go_at_call 7; (with_reducible refine (quanta_c c _ _ _ hw).mono ?_); rintro e w1 ⟨rfl, hb⟩; have HB := hb_next (w := w) (by repeat (first | (with_reducible assumption) | exact hid_refl _ | apply hid_alloc | apply hid_drew | apply hid_drewN)) hb; have ⟨hc, hf⟩ := bcell hb; have hk := bblk hb; have hz : w.heap.size < w1.heap.size := (by have h1 := hb.size; (try simp at h1); omega); clear hb))
          (refine wp_region_since (by kernel_rfl) (by kernel_rfl) ?_; (repeat (go_big_quiet_step ((first | (go_at_call 8; exact since_below (reload_c c _ hw)) | (go_at_call 9; exact since_below (zone_c c s _ hw)) | (go_at_call 10; exact since_below (useful_c c s _ hw)))))); refine wpQuiet_nil ?_; intro w1 hb; have HB := hb_next (w := w) (by repeat (first | (with_reducible assumption) | exact hid_refl _ | apply hid_alloc | apply hid_drew | apply hid_drewN)) hb; have ⟨hc, hf⟩ := bcell hb; have hk := bblk hb; have hz : w.heap.size < w1.heap.size := (by have h1 := hb.size; (try simp at h1); omega); clear hb)
          go_wp2_with (first | (go_at_call 11; (with_reducible refine (machine_valid c _ hw).mono ?_); rintro e w1 ⟨rfl, hb⟩; have HB := hb_next (w := w) (by repeat (first | (with_reducible assumption) | exact hid_refl _ | apply hid_alloc | apply hid_drew | apply hid_drewN)) hb; have ⟨hc, hf⟩ := bcell hb; have hk := bblk hb; have hz : w.heap.size < w1.heap.size := (by have h1 := hb.size; (try simp at h1); omega); clear hb) | (go_at_call 13; (with_reducible refine (ranged_c _ _).mono ?_); rintro e w1 ⟨rfl, rfl⟩) | (go_at_call 12; (with_reducible refine (rreload c _ h).mono ?_); rintro e w1 ⟨rfl, hb⟩; have HB := hb_next (w := w) (by repeat (first | (with_reducible assumption) | exact hid_refl _ | apply hid_alloc | apply hid_drew | apply hid_drewN)) hb; have ⟨hc, hf⟩ := bcell hb; have hk := bblk hb; have hz : w.heap.size < w1.heap.size := (by have h1 := hb.size; (try simp at h1); omega); clear hb) | (go_at_call 14; (with_reducible refine (ruseful c s _ h hs).mono ?_); rintro e w1 ⟨rfl, hb⟩; have HB := hb_next (w := w) (by repeat (first | (with_reducible assumption) | exact hid_refl _ | apply hid_alloc | apply hid_drew | apply hid_drewN)) hb; have ⟨hc, hf⟩ := bcell hb; have hk := bblk hb; have hz : w.heap.size < w1.heap.size := (by have h1 := hb.size; (try simp at h1); omega); clear hb) | (go_at_call 15; (with_reducible refine (rquanta c cyc s _ h hcy hs).mono ?_); rintro e w1 ⟨rfl, hb⟩; have HB := hb_next (w := w) (by repeat (first | (with_reducible assumption) | exact hid_refl _ | apply hid_alloc | apply hid_drew | apply hid_drewN)) hb; have ⟨hc, hf⟩ := bcell hb; have hk := bblk hb; have hz : w.heap.size < w1.heap.size := (by have h1 := hb.size; (try simp at h1); omega); clear hb))
          go_ret
          have qp2 := quantaV_pos c cyc s
          have qp3 : quantaV c cyc s ≠ 0 := by omega
          exact ⟨ret_bool (by simp [qp3]; try omega), HB.out⟩
      · have e4 := quantaS_range (cyc := cyc) (s := s) hv (fun h => hcy h.1)
        unfold Cfg.v
        go_enter Try.func3, Try.ntmps3
        go_wp2_with (first | (go_at_call 6; (with_reducible refine (awake_c _).mono ?_); rintro e w1 ⟨rfl, hb⟩; have HB := hb_next (w := w) (by repeat (first | (with_reducible assumption) | exact hid_refl _ | apply hid_alloc | apply hid_drew | apply hid_drewN)) hb; have ⟨hc, hf⟩ := bcell hb; have hk := bblk hb; have hz : w.heap.size < w1.heap.size := (by have h1 := hb.size; (try simp at h1); omega); clear hb) | (go_at_call 7; (with_reducible refine (quanta_c c _ _ _ hw).mono ?_); rintro e w1 ⟨rfl, hb⟩; have HB := hb_next (w := w) (by repeat (first | (with_reducible assumption) | exact hid_refl _ | apply hid_alloc | apply hid_drew | apply hid_drewN)) hb; have ⟨hc, hf⟩ := bcell hb; have hk := bblk hb; have hz : w.heap.size < w1.heap.size := (by have h1 := hb.size; (try simp at h1); omega); clear hb))
        (refine wp_region_since (by kernel_rfl) (by kernel_rfl) ?_; (repeat (go_big_quiet_step ((first | (go_at_call 8; exact since_below (reload_c c _ hw)) | (go_at_call 9; exact since_below (zone_c c s _ hw)) | (go_at_call 10; exact since_below (useful_c c s _ hw)))))); refine wpQuiet_nil ?_; intro w1 hb; have HB := hb_next (w := w) (by repeat (first | (with_reducible assumption) | exact hid_refl _ | apply hid_alloc | apply hid_drew | apply hid_drewN)) hb; have ⟨hc, hf⟩ := bcell hb; have hk := bblk hb; have hz : w.heap.size < w1.heap.size := (by have h1 := hb.size; (try simp at h1); omega); clear hb)
        go_wp2_with (first | (go_at_call 11; (with_reducible refine (machine_valid c _ hw).mono ?_); rintro e w1 ⟨rfl, hb⟩; have HB := hb_next (w := w) (by repeat (first | (with_reducible assumption) | exact hid_refl _ | apply hid_alloc | apply hid_drew | apply hid_drewN)) hb; have ⟨hc, hf⟩ := bcell hb; have hk := bblk hb; have hz : w.heap.size < w1.heap.size := (by have h1 := hb.size; (try simp at h1); omega); clear hb) | (go_at_call 13; (with_reducible refine (ranged_c _ _).mono ?_); rintro e w1 ⟨rfl, rfl⟩) | (go_at_call 12; (with_reducible refine (rreload c _ h).mono ?_); rintro e w1 ⟨rfl, hb⟩; have HB := hb_next (w := w) (by repeat (first | (with_reducible assumption) | exact hid_refl _ | apply hid_alloc | apply hid_drew | apply hid_drewN)) hb; have ⟨hc, hf⟩ := bcell hb; have hk := bblk hb; have hz : w.heap.size < w1.heap.size := (by have h1 := hb.size; (try simp at h1); omega); clear hb) | (go_at_call 14; (with_reducible refine (ruseful c s _ h hs).mono ?_); rintro e w1 ⟨rfl, hb⟩; have HB := hb_next (w := w) (by repeat (first | (with_reducible assumption) | exact hid_refl _ | apply hid_alloc | apply hid_drew | apply hid_drewN)) hb; have ⟨hc, hf⟩ := bcell hb; have hk := bblk hb; have hz : w.heap.size < w1.heap.size := (by have h1 := hb.size; (try simp at h1); omega); clear hb))
        go_ret
        exact ⟨by simp, HB.out⟩
    · have e2 := zoneS_no (c := c) (s := s) (fun h => hs h.2)
      have e3 := usefulS_no (c := c) (s := s) (fun h => hs h.2)
      have e4 := quantaS_range (cyc := cyc) (s := s) hv (fun h => hs h.2)
      unfold Cfg.v
      go_enter Try.func3, Try.ntmps3
      go_wp2_with (first | (go_at_call 6; (with_reducible refine (awake_c _).mono ?_); rintro e w1 ⟨rfl, hb⟩; have HB := hb_next (w := w) (by repeat (first | (with_reducible assumption) | exact hid_refl _ | apply hid_alloc | apply hid_drew | apply hid_drewN)) hb; have ⟨hc, hf⟩ := bcell hb; have hk := bblk hb; have hz : w.heap.size < w1.heap.size := (by have h1 := hb.size; (try simp at h1); omega); clear hb) | (go_at_call 7; (with_reducible refine (quanta_c c _ _ _ hw).mono ?_); rintro e w1 ⟨rfl, hb⟩; have HB := hb_next (w := w) (by repeat (first | (with_reducible assumption) | exact hid_refl _ | apply hid_alloc | apply hid_drew | apply hid_drewN)) hb; have ⟨hc, hf⟩ := bcell hb; have hk := bblk hb; have hz : w.heap.size < w1.heap.size := (by have h1 := hb.size; (try simp at h1); omega); clear hb))
      (refine wp_region_since (by kernel_rfl) (by kernel_rfl) ?_; (repeat (go_big_quiet_step ((first | (go_at_call 8; exact since_below (reload_c c _ hw)) | (go_at_call 9; exact since_below (zone_c c s _ hw)) | (go_at_call 10; exact since_below (useful_c c s _ hw)))))); refine wpQuiet_nil ?_; intro w1 hb; have HB := hb_next (w := w) (by repeat (first | (with_reducible assumption) | exact hid_refl _ | apply hid_alloc | apply hid_drew | apply hid_drewN)) hb; have ⟨hc, hf⟩ := bcell hb; have hk := bblk hb; have hz : w.heap.size < w1.heap.size := (by have h1 := hb.size; (try simp at h1); omega); clear hb)
      go_wp2_with (first | (go_at_call 11; (with_reducible refine (machine_valid c _ hw).mono ?_); rintro e w1 ⟨rfl, hb⟩; have HB := hb_next (w := w) (by repeat (first | (with_reducible assumption) | exact hid_refl _ | apply hid_alloc | apply hid_drew | apply hid_drewN)) hb; have ⟨hc, hf⟩ := bcell hb; have hk := bblk hb; have hz : w.heap.size < w1.heap.size := (by have h1 := hb.size; (try simp at h1); omega); clear hb) | (go_at_call 13; (with_reducible refine (ranged_c _ _).mono ?_); rintro e w1 ⟨rfl, rfl⟩) | (go_at_call 12; (with_reducible refine (rreload c _ h).mono ?_); rintro e w1 ⟨rfl, hb⟩; have HB := hb_next (w := w) (by repeat (first | (with_reducible assumption) | exact hid_refl _ | apply hid_alloc | apply hid_drew | apply hid_drewN)) hb; have ⟨hc, hf⟩ := bcell hb; have hk := bblk hb; have hz : w.heap.size < w1.heap.size := (by have h1 := hb.size; (try simp at h1); omega); clear hb))
      go_ret
      exact ⟨by simp, HB.out⟩
  · have e1 := reloadS_no hv
    have e2 := zoneS_no (c := c) (s := s) (fun h => hv h.1)
    have e3 := usefulS_no (c := c) (s := s) (fun h => hv h.1)
    have e4 := quantaS_arg (cyc := cyc) (s := s) hv
    have hv2 := macOK_no hv
    unfold Cfg.v
    go_enter Try.func3, Try.ntmps3
    go_wp2_with (first | (go_at_call 6; (with_reducible refine (awake_c _).mono ?_); rintro e w1 ⟨rfl, hb⟩; have HB := hb_next (w := w) (by repeat (first | (with_reducible assumption) | exact hid_refl _ | apply hid_alloc | apply hid_drew | apply hid_drewN)) hb; have ⟨hc, hf⟩ := bcell hb; have hk := bblk hb; have hz : w.heap.size < w1.heap.size := (by have h1 := hb.size; (try simp at h1); omega); clear hb) | (go_at_call 7; (with_reducible refine (quanta_c c _ _ _ hw).mono ?_); rintro e w1 ⟨rfl, hb⟩; have HB := hb_next (w := w) (by repeat (first | (with_reducible assumption) | exact hid_refl _ | apply hid_alloc | apply hid_drew | apply hid_drewN)) hb; have ⟨hc, hf⟩ := bcell hb; have hk := bblk hb; have hz : w.heap.size < w1.heap.size := (by have h1 := hb.size; (try simp at h1); omega); clear hb))
    (refine wp_region_since (by kernel_rfl) (by kernel_rfl) ?_; (repeat (go_big_quiet_step ((first | (go_at_call 8; exact since_below (reload_c c _ hw)) | (go_at_call 9; exact since_below (zone_c c s _ hw)) | (go_at_call 10; exact since_below (useful_c c s _ hw)))))); refine wpQuiet_nil ?_; intro w1 hb; have HB := hb_next (w := w) (by repeat (first | (with_reducible assumption) | exact hid_refl _ | apply hid_alloc | apply hid_drew | apply hid_drewN)) hb; have ⟨hc, hf⟩ := bcell hb; have hk := bblk hb; have hz : w.heap.size < w1.heap.size := (by have h1 := hb.size; (try simp at h1); omega); clear hb)
    go_wp2_with (first | (go_at_call 11; (with_reducible refine (machine_valid c _ hw).mono ?_); rintro e w1 ⟨rfl, hb⟩; have HB := hb_next (w := w) (by repeat (first | (with_reducible assumption) | exact hid_refl _ | apply hid_alloc | apply hid_drew | apply hid_drewN)) hb; have ⟨hc, hf⟩ := bcell hb; have hk := bblk hb; have hz : w.heap.size < w1.heap.size := (by have h1 := hb.size; (try simp at h1); omega); clear hb))
    go_ret
    exact ⟨by simp, HB.out⟩

end Go.Proofs.Ytnlbpfddhdchnaa
