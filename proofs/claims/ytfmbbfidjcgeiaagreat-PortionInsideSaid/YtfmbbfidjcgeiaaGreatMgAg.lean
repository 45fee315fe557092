/- A part of the proofs: OpenP. No condition beside sizes and tables that read as laid. -/
import Derived.Test.YtfmbbfidjcgeiaaGreatMgAf
import Derived.Test.YtfmbbfidjcgeiaaGreatMgAd
namespace Go.Proofs.YtfmbbfidjcgeiaaGreat
open Go.ChangeShapes Go.WideShapes Go.ChangeAt Go.RowKit
open Go.ChangeMaps (open_string)

theorem cells_ver : Tryz.prog.cellsOf 64 = 6 := by kernel_rfl
theorem cells_exp : Tryz.prog.cellsOf 39 = 7 := by kernel_rfl
theorem cells_asg : Tryz.prog.cellsOf 45 = 2 := by kernel_rfl
theorem cells_delta : Tryz.prog.cellsOf 42 = 2 := by kernel_rfl
theorem cells_tups : Tryz.prog.cellsOf 40 = 1 := by kernel_rfl
section
variable {H : Type} {enc : TypeId × Value → H} {w : World} {spare : Nat → Bool}
/-- A version whose numbers are a machine's. -/
def IsVer (x : Ver) : Prop := Is64 x.id ∧ (∀ v ∈ x.vals, IsVal v) ∧ (Is64 x.lo ∧ Is64 x.hi) ∧ Is64 x.rlo ∧ Is64 x.rhi
set_option maxRecDepth 10000 in
theorem open_per_el (n : Nat) (cs : List Value) (y : DataW H × List MemPlace) (h : DataW.trod enc Tryz.prog w 0 spare true n 28 cs = some y) (hl : cs.length = 2) : ∃ lo hi : Int, cs = [.int .i64 lo, .int .i64 hi] ∧ Is64 lo ∧ Is64 hi := by
  obtain ⟨xs1, k1, _, _, _, hxl1, hf1⟩ := DataW.trod_struct Tryz.underlying28 h
  match cs, hl with
  | [c0, c1], _ =>
    match xs1, hxl1 with
    | [z0, z1], _ =>
      have f0 := hf1 0 _ rfl
      have f1 := hf1 1 _ rfl
      simp [cells_int] at f0 f1
      obtain ⟨k0, e3, _, w0⟩ := DataW.trod_int Tryz.underlying3 f0
      obtain ⟨k1, e4, _, w1⟩ := DataW.trod_int Tryz.underlying3 f1
      simp at e3 e4
      subst e3 e4
      exact ⟨k0, k1, rfl, is64_of w0, is64_of w1⟩
set_option maxRecDepth 10000 in
theorem open_ver_el (n : Nat) (cs : List Value) (y : DataW H × List MemPlace) (h : DataW.trod enc Tryz.prog w 0 spare true n 64 cs = some y) (hl : cs.length = 6) : ∃ x, verE.is w free x cs ∧ IsVer x := by
  obtain ⟨xs, k, hk, hxy, _, hxl, hf⟩ := DataW.trod_struct Tryz.underlying64 h
  match cs, hl with
  | [c0, c1, c2, c3, c4, c5], _ =>
    match xs, hxl with
    | [y0, y1, y2, y3], _ =>
      have g0 := hf 0 _ rfl
      have g1 := hf 1 _ rfl
      have g2 := hf 2 _ rfl
      have g3 := hf 3 _ rfl
      simp [cells_int, cells_vals, cells_per] at g0 g1 g2 g3
      obtain ⟨k0, e0, _, w0⟩ := DataW.trod_int Tryz.underlying3 g0
      obtain ⟨v, lv, e1, hv, pv⟩ := open_sl_trod valE IsVal Tryz.underlying51 cells_val open_val_el g1
      obtain ⟨lo, hi, e2, p0, p1⟩ := open_per_el _ _ _ g2 rfl
      obtain ⟨rlo, rhi, e3, q0, q1⟩ := open_per_el _ _ _ g3 rfl
      simp at e0 e1 e2 e3
      obtain ⟨rfl, rfl⟩ := e2
      obtain ⟨rfl, rfl⟩ := e3
      subst e0 e1
      exact ⟨⟨k0, lv, lo, hi, rlo, rhi⟩, ⟨_, rfl, hv⟩, is64_of w0, pv, ⟨p0, p1⟩, q0, q1⟩
set_option maxRecDepth 10000 in
theorem open_asg_el (n : Nat) (cs : List Value) (y : DataW H × List MemPlace) (h : DataW.trod enc Tryz.prog w 0 spare true n 45 cs = some y) (hl : cs.length = 2) : ∃ x, asgE.is w free x cs ∧ True := by
  obtain ⟨xs, k, hk, hxy, _, hxl, hf⟩ := DataW.trod_struct Tryz.underlying45 h
  match cs, hl with
  | [c0, c1], _ =>
    match xs, hxl with
    | [z0, z1], _ =>
      have f0 := hf 0 _ rfl
      have f1 := hf 1 _ rfl
      simp [cells_int] at f0 f1
      obtain ⟨k0, e3, _, w0⟩ := DataW.trod_int Tryz.underlying3 f0
      obtain ⟨k1, e4, _, w1⟩ := DataW.trod_int Tryz.underlying3 f1
      simp at e3 e4
      subst e3 e4
      exact ⟨⟨k0, k1⟩, rfl, trivial⟩
set_option maxRecDepth 10000 in
theorem open_exp_el (n : Nat) (cs : List Value) (y : DataW H × List MemPlace) (h : DataW.trod enc Tryz.prog w 0 spare true n 39 cs = some y) (hl : cs.length = 7) : ∃ x, expE.is w free x cs ∧ IsVal x.c := by
  obtain ⟨xs, k, hk, hxy, _, hxl, hf⟩ := DataW.trod_struct Tryz.underlying39 h
  match cs, hl with
  | [c0, c1, c2, c3, c4, c5, c6], _ =>
    match xs, hxl with
    | [y0, y1, y2, y3, y4], _ =>
      have g0 := hf 0 _ rfl
      have g1 := hf 1 _ rfl
      have g2 := hf 2 _ rfl
      have g3 := hf 3 _ rfl
      have g4 := hf 4 _ rfl
      simp [cells_int, cells_val] at g0 g1 g2 g3 g4
      obtain ⟨k0, e0, _, w0⟩ := DataW.trod_int Tryz.underlying3 g0
      obtain ⟨k1, e1, _, w1⟩ := DataW.trod_int Tryz.underlying3 g1
      obtain ⟨k2, e2, _, w2⟩ := DataW.trod_int Tryz.underlying3 g2
      obtain ⟨k3, e3, _, w3⟩ := DataW.trod_int Tryz.underlying3 g3
      obtain ⟨x, hx, px⟩ := open_val_el _ _ _ g4 rfl
      simp at e0 e1 e2 e3
      subst e0 e1 e2 e3
      have hx' : [c4, c5, c6] = valOf x := hx
      simp only [valOf, List.cons.injEq, and_true] at hx'
      obtain ⟨rfl, rfl, rfl⟩ := hx'
      exact ⟨⟨k0, k1, k2, k3, x⟩, rfl, px⟩
set_option maxRecDepth 10000 in
/-- An argument that is an edit. -/
theorem open_delta {base : Nat} {v : Value} {d : DataW H} {ps : List MemPlace} (hv : Value.okWide Tryz.prog w .any base 42 v) (h : DataW.Trod enc Tryz.prog w 0 spare true 42 v d ps) : ∃ vc va cl ad, v = .agg #[vc, va] ∧ Sl intE w free vc cl ∧ Tups w va ad ∧ (∀ x ∈ cl, Is64 x) ∧ ∀ x ∈ ad, IsTup x := by
  obtain ⟨cs, rfl, hs⟩ := okWide_struct Tryz.underlying42 hv
  obtain ⟨fuel, hf⟩ := h
  rw [cells_delta] at hs
  obtain ⟨l⟩ := cs
  match l, hs with
  | [c0, c1], _ =>
    obtain ⟨xs, k, hk, hxy, _, hxl, hf⟩ := DataW.trod_struct Tryz.underlying42 hf
    match xs, hxl with
    | [y0, y1], _ =>
      have g0 := hf 0 _ rfl
      have g1 := hf 1 _ rfl
      simp [cells_ints, cells_tups, Value.cells] at g0 g1
      obtain ⟨u, lu, e0, hu, pu⟩ := open_sl_trod intE Is64 Tryz.underlying33 cells_int open_int_el g0
      obtain ⟨v, lv, e1, hv, pv⟩ := open_sl_trod tupE IsTup Tryz.underlying40 cells_tup open_tup_el g1
      simp at e0 e1
      subst e0 e1
      exact ⟨_, _, lu, lv, rfl, hu, hv, pu, pv⟩
set_option maxRecDepth 10000 in
/-- An argument that is a period. -/
theorem open_perarg {base : Nat} {v : Value} {d : DataW H} {ps : List MemPlace} (hv : Value.okWide Tryz.prog w .any base 28 v) (h : DataW.Trod enc Tryz.prog w 0 spare true 28 v d ps) : ∃ lo hi : Int, v = .agg #[.int .i64 lo, .int .i64 hi] ∧ Is64 lo ∧ Is64 hi := by
  obtain ⟨cs, rfl, hs⟩ := okWide_struct Tryz.underlying28 hv
  obtain ⟨fuel, hf⟩ := h
  obtain ⟨lo, hi, e, h1, h2⟩ := open_per_el _ _ _ hf (by rw [cells_per] at hs; simpa [Value.cells] using hs)
  obtain ⟨l⟩ := cs
  simp [Value.cells] at e
  subst e
  exact ⟨lo, hi, rfl, h1, h2⟩
end
end Go.Proofs.YtfmbbfidjcgeiaaGreat
