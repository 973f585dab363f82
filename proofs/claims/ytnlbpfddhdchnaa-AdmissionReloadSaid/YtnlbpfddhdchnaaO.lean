/- A configuration that came in: its fifteen numbers. -/
import Derived.Test.YtnlbpfddhdchnaaD
import Derived.ProofKit
import Derived.OpenShut
set_option linter.unusedVariables false
set_option linter.unusedSimpArgs false
namespace Go.Proofs.Ytnlbpfddhdchnaa
open Go.RowKit Go.ChangeShapes Go.WideShapes

theorem wf_hi {n : Int} (h : (Lit.int .i64 n).wf = true) : n ≤ 9223372036854775807 := by
  simp only [Lit.wf, Bool.and_eq_true, decide_eq_true_eq] at h
  have hmax : IntKind.i64.max = 9223372036854775807 := rfl
  omega

section
variable {H : Type} {enc : TypeId × Value → H} {w : World} {base : Nat} {spare : Nat → Bool} {held : Bool}
theorem fld {n : Nat} {fs : Array Field} {cs : List Value} {xs : List (DataW H × List MemPlace)} (hl : xs.length = fs.size)
    (hg : ∀ (i : Nat) (f : Field), fs[i]? = some f → DataW.trod enc Try.prog w base spare held n f.type ((cs.drop f.offset).take (Try.prog.cellsOf f.type)) = xs[i]?)
    (i : Nat) (f : Field) (hf : fs[i]? = some f) : ∃ y, DataW.trod enc Try.prog w base spare held n f.type ((cs.drop f.offset).take (Try.prog.cellsOf f.type)) = some y := by
  have hi : i < fs.size := (Array.getElem?_eq_some_iff.1 hf).1
  exact ⟨xs[i]'(by omega), (hg i f hf).trans (List.getElem?_eq_getElem (by omega))⟩
theorem fld2 {n : Nat} {fs : Array Field} {cs : List Value} {xs : List (DataW H × List MemPlace)} (hl : xs.length = fs.size)
    (hg : ∀ (i : Nat) (f : Field), fs[i]? = some f → DataW.trod enc Try.prog w base spare held n f.type ((cs.drop f.offset).take (Try.prog.cellsOf f.type)) = xs[i]?)
    (i T o k : Nat) (hf : (fs[i]?).map (fun f => (f.type, f.offset)) = some (T, o)) (hk : Try.prog.cellsOf T = k) : ∃ y, DataW.trod enc Try.prog w base spare held n T ((cs.drop o).take k) = some y := by
  obtain ⟨f, h1, h2⟩ := Option.map_eq_some_iff.1 hf
  obtain ⟨y, hy⟩ := fld hl hg i f h1
  simp only [Prod.mk.injEq] at h2
  obtain ⟨rfl, rfl⟩ := h2
  subst hk
  exact ⟨y, hy⟩
theorem fint {n : Nat} {v : Value} {x : DataW H × List MemPlace} (h : DataW.trod enc Try.prog w base spare held n 3 [v] = some x) : ∃ m : Int, v = .int .i64 m ∧ m ≤ 9223372036854775807 := by
  obtain ⟨m, hm, _, hw⟩ := DataW.trod_int Try.underlying3 h
  exact ⟨m, by simpa using hm, wf_hi hw⟩
theorem c_int : Try.prog.cellsOf 3 = 1 := by kernel_rfl
theorem c_timing : Try.prog.cellsOf 23 = 4 := by kernel_rfl
theorem c_cache : Try.prog.cellsOf 25 = 3 := by kernel_rfl
theorem c_config : Try.prog.cellsOf 27 = 15 := by kernel_rfl
theorem open_cache {n : Nat} {a b c : Value} {x : DataW H × List MemPlace} (h : DataW.trod enc Try.prog w base spare held n 25 [a, b, c] = some x) :
    ∃ p q r : Int, a = .int .i64 p ∧ b = .int .i64 q ∧ c = .int .i64 r ∧ p ≤ 9223372036854775807 ∧ q ≤ 9223372036854775807 ∧ r ≤ 9223372036854775807 := by
  obtain ⟨xs, m, _, _, _, hl, hg⟩ := DataW.trod_struct Try.underlying25 h
  obtain ⟨y0, h0⟩ := fld2 hl hg 0 3 0 1 rfl c_int
  obtain ⟨y1, h1⟩ := fld2 hl hg 1 3 1 1 rfl c_int
  obtain ⟨y2, h2⟩ := fld2 hl hg 2 3 2 1 rfl c_int
  simp only [List.drop_zero, List.drop_succ_cons, List.take_succ_cons, List.take_zero] at h0 h1 h2
  obtain ⟨p, rfl, hp⟩ := fint h0
  obtain ⟨q, rfl, hq⟩ := fint h1
  obtain ⟨r, rfl, hr⟩ := fint h2
  exact ⟨p, q, r, rfl, rfl, rfl, hp, hq, hr⟩
theorem open_timing {n : Nat} {a b c d : Value} {x : DataW H × List MemPlace} (h : DataW.trod enc Try.prog w base spare held n 23 [a, b, c, d] = some x) :
    ∃ p q r s : Int, a = .int .i64 p ∧ b = .int .i64 q ∧ c = .int .i64 r ∧ d = .int .i64 s := by
  obtain ⟨xs, m, _, _, _, hl, hg⟩ := DataW.trod_struct Try.underlying23 h
  obtain ⟨y0, h0⟩ := fld2 hl hg 0 3 0 1 rfl c_int
  obtain ⟨y1, h1⟩ := fld2 hl hg 1 3 1 1 rfl c_int
  obtain ⟨y2, h2⟩ := fld2 hl hg 2 3 2 1 rfl c_int
  obtain ⟨y3, h3⟩ := fld2 hl hg 3 3 3 1 rfl c_int
  simp only [List.drop_zero, List.drop_succ_cons, List.take_succ_cons, List.take_zero] at h0 h1 h2 h3
  obtain ⟨p, rfl, hp⟩ := fint h0
  obtain ⟨q, rfl, hq⟩ := fint h1
  obtain ⟨r, rfl, hr⟩ := fint h2
  obtain ⟨s, rfl, hs⟩ := fint h3
  exact ⟨p, q, r, s, rfl, rfl, rfl, rfl⟩
theorem open_cfg {r : Reach} {b0 : Nat} {v : Value} {d : DataW H} {p : List MemPlace} (hv : Value.okWide Try.prog w r b0 27 v) (h : DataW.Trod enc Try.prog w base spare held 27 v d p) :
    ∃ c : Cfg, v = c.v ∧ c.wf := by
  obtain ⟨cs, rfl, hsz⟩ := okWide_struct Try.underlying27 hv
  obtain ⟨l⟩ := cs
  match l, hsz.trans c_config with
  | [v0, v1, v2, v3, v4, v5, v6, v7, v8, v9, v10, v11, v12, v13, v14], _ =>
    obtain ⟨fuel, hf⟩ := h
    obtain ⟨xs, m, _, _, _, hl, hg⟩ := DataW.trod_struct Try.underlying27 hf
    obtain ⟨y0, h0⟩ := fld2 hl hg 0 3 0 1 rfl c_int
    obtain ⟨y1, h1⟩ := fld2 hl hg 1 3 1 1 rfl c_int
    obtain ⟨y2, h2⟩ := fld2 hl hg 2 3 2 1 rfl c_int
    obtain ⟨y3, h3⟩ := fld2 hl hg 3 23 3 4 rfl c_timing
    obtain ⟨y4, h4⟩ := fld2 hl hg 4 25 7 3 rfl c_cache
    obtain ⟨y5, h5⟩ := fld2 hl hg 5 25 10 3 rfl c_cache
    obtain ⟨y6, h6⟩ := fld2 hl hg 6 3 13 1 rfl c_int
    obtain ⟨y7, h7⟩ := fld2 hl hg 7 3 14 1 rfl c_int
    simp only [Value.cells, List.drop_zero, List.drop_succ_cons, List.take_succ_cons, List.take_zero] at h0 h1 h2 h3 h4 h5 h6 h7
    obtain ⟨i0, rfl, _⟩ := fint h0
    obtain ⟨i1, rfl, _⟩ := fint h1
    obtain ⟨i2, rfl, _⟩ := fint h2
    obtain ⟨i3, i4, i5, i6, rfl, rfl, rfl, rfl⟩ := open_timing h3
    obtain ⟨i7, i8, i9, rfl, rfl, rfl, b7, b8, b9⟩ := open_cache h4
    obtain ⟨i10, i11, i12, rfl, rfl, rfl, b10, b11, b12⟩ := open_cache h5
    obtain ⟨i13, rfl, _⟩ := fint h6
    obtain ⟨i14, rfl, _⟩ := fint h7
    exact ⟨⟨i0, i1, i2, i3, i4, i5, i6, i7, i8, i9, i10, i11, i12, i13, i14⟩, rfl, b7, b9, b10, b12⟩
end
end Go.Proofs.Ytnlbpfddhdchnaa
