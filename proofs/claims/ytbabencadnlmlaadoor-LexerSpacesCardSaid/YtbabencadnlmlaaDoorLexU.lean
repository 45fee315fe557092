/- The reference's SameTokens: are two slices of tokens equal. No condition. -/
import Derived.Test.YtbabencadnlmlaaDoorLexT
namespace Go.Proofs.YtbabencadnlmlaaDoor
open Go.RowKit

def sameTok (a b : Tok) : Bool := a.kind == b.kind && a.pos == b.pos && a.text == b.text
def sameToks : List Tok → List Tok → Bool
  | [], [] => true
  | a :: l, b :: m => sameTok a b && sameToks l m
  | _, _ => false
theorem tokCells_length (l : List Tok) : (tokCells l).length = l.length * 3 := by
  induction l with
  | nil => rfl
  | cons t l ih => simp [tokCells] at *; omega
theorem tokCells_at (l : List Tok) (i : Nat) (x : Tok) (h : l[i]? = some x) :
    (tokCells l)[i * 3]? = some (.int .i64 x.kind) ∧ (tokCells l)[i * 3 + 1]? = some (.int .i64 x.pos) ∧ (tokCells l)[i * 3 + 2]? = some (.string ⟨x.text.toArray⟩) := by
  induction l generalizing i with
  | nil => simp at h
  | cons t l ih =>
    cases i with
    | zero => simp at h; subst h; simp [tokCells]
    | succ i =>
      have := ih i (by simpa using h)
      have e : tokCells (t :: l) = [.int .i64 t.kind, .int .i64 t.pos, .string ⟨t.text.toArray⟩] ++ tokCells l := rfl
      rw [e]
      simpa [Nat.add_mul, List.getElem?_append_right, Nat.add_assoc] using this

theorem tok_held : Tryd.prog.stoodInHeld 35 = false := by kernel_rfl
theorem tok_guard : Tryd.prog.eqGuardType Tryd.prog.depth 35 = false := by kernel_rfl
theorem tok_fields : Tryd.prog.underlying 35 = some (.struct (Tryd.prog.fieldsOf 35)) := by kernel_rfl
theorem tok_eqIn (d : Nat) (k p k' p' : Int) (s s' : ByteArray) (w : World) :
    (Op.equalIn (d + 2) 35 (.agg #[.int .i64 k, .int .i64 p, .string s]) (.agg #[.int .i64 k', .int .i64 p', .string s'])).run Tryd.prog w = .ok (k == k' && p == p' && s.toList == s'.toList) w := by
  rw [run_equalIn_struct w _ _ _ _ tok_fields tok_held]
  simp [go_sem]
  by_cases h1 : k = k' <;> by_cases h2 : p = p' <;> by_cases h3 : s.toList = s'.toList <;> simp [*]
theorem tok_eql (k p k' p' : Int) (s s' : ByteArray) (w : World) :
    (binOp .eql 35 (.agg #[.int .i64 k, .int .i64 p, .string s]) (.agg #[.int .i64 k', .int .i64 p', .string s'])).run Tryd.prog w = .ok (.bool (k == k' && p == p' && s.toList == s'.toList)) w := by
  rw [run_eql_struct, tok_eqIn]; rfl
theorem tok_neq (k p k' p' : Int) (s s' : ByteArray) (w : World) :
    (binOp .neq 35 (.agg #[.int .i64 k, .int .i64 p, .string s]) (.agg #[.int .i64 k', .int .i64 p', .string s'])).run Tryd.prog w = .ok (.bool !(k == k' && p == p' && s.toList == s'.toList)) w := by
  rw [run_neq_struct, tok_eqIn]; rfl

set_option maxHeartbeats 1000000 in
theorem same_pos (ba oa ca bb ob cb n : Nat) (l m : List Tok) (w : World) (hn : 0 < n) (hm : n ≤ 9223372036854775807) (hla : l.length = n) (hlb : m.length = n)
    (ha : ∀ j u, (tokCells l)[j]? = some u → w.cell? ⟨ba, oa + j, none⟩ = some u) (hb : ∀ j u, (tokCells m)[j]? = some u → w.cell? ⟨bb, ob + j, none⟩ = some u) :
    Calls Tryd.prog 12 #[.slice (some ⟨ba, oa, none⟩) n ca, .slice (some ⟨bb, ob, none⟩) n cb] w fun e w' => e = .returned (.bool (sameToks l m)) ∧ Below w.heap.size w w' := by
  have HA := Lib.hid ha
  have HB := Lib.hid hb
  have HL := Lib.hid hla
  have HM := Lib.hid hlb
  clear ha hb hla hlb
  go_enter Tryd.func12, Tryd.ntmps12
  go_wp2_with fail
  go_loopw [5] (fun i wr => ∃ k : Nat, k ≤ n ∧ i = .int .i64 k ∧ sameToks (l.drop k) (m.drop k) = sameToks l m ∧ ∃ q, wr = w.drewN q) (fun i _ => n - (intOf i).toNat)
  case atStart => exact ⟨0, Nat.zero_le _, rfl, rfl, 0, rfl⟩
  case round =>
    obtain ⟨k, hk, rfl, hR, q, rfl⟩ := hrel
    have HR := Lib.hid hR
    clear hR
    by_cases hlt : k < n
    · obtain ⟨x, hxk⟩ := lget_some l k (by rw [HL.out]; exact hlt)
      obtain ⟨y, hyk⟩ := lget_some m k (by rw [HM.out]; exact hlt)
      have hx := tokCells_at l k x hxk
      have hy := tokCells_at m k y hyk
      have HS : Hid (sameToks (l.drop k) (m.drop k) = (sameTok x y && sameToks (l.drop (k + 1)) (m.drop (k + 1)))) := by rw [drop_get hxk, drop_get hyk]; trivial
      clear hxk hyk
      have a0 : w.cell? ⟨ba, oa + k * 3, none⟩ = _ := HA.out _ _ hx.1
      have a1 : w.cell? ⟨ba, oa + k * 3 + 1, none⟩ = _ := HA.out _ _ hx.2.1
      have a2 : w.cell? ⟨ba, oa + k * 3 + 2, none⟩ = _ := HA.out _ _ hx.2.2
      have b0 : w.cell? ⟨bb, ob + k * 3, none⟩ = _ := HB.out _ _ hy.1
      have b1 : w.cell? ⟨bb, ob + k * 3 + 1, none⟩ = _ := HB.out _ _ hy.2.1
      have b2 : w.cell? ⟨bb, ob + k * 3 + 2, none⟩ = _ := HB.out _ _ hy.2.2
      clear hx hy
      have heq : ∀ W : World, (binOp .neq 35 (.agg #[.int .i64 x.kind, .int .i64 x.pos, .string ⟨x.text.toArray⟩]) (.agg #[.int .i64 y.kind, .int .i64 y.pos, .string ⟨y.text.toArray⟩])).run Tryd.prog W = .ok (.bool !(sameTok x y)) W := by
        intro W; rw [tok_neq]; simp [sameTok]
      have hgd := tok_guard
      cases hst : sameTok x y
      · rw [hst] at HS
        go_wp2_with fail
        go_quiet (fail)
        go_wp2_with fail
        go_ret
        exact ⟨ret_bool (by rw [← HR.out, HS.out]; rfl), below_drewN (below_drewN (Below.refl _ _) _) _⟩
      · rw [hst] at HS
        go_wp2_with fail
        go_quiet (fail)
        go_wp2_with fail
        go_roundw
        case rel => exact ⟨k + 1, hlt, by go_num, by rw [← HR.out, HS.out]; rfl, _, rfl⟩
        case measure => simp [intOf]; omega
    · go_wp2_with fail
      go_ret
      exact ⟨ret_bool (by rw [← HR.out, List.drop_of_length_le (by rw [HL.out]; omega), List.drop_of_length_le (l := m) (by rw [HM.out]; omega)]; rfl), below_drewN (Below.refl _ _) _⟩

theorem sameToks_len (l m : List Tok) (h : l.length ≠ m.length) : sameToks l m = false := by
  induction l generalizing m with
  | nil => cases m with
    | nil => simp at h
    | cons b m => rfl
  | cons a l ih => cases m with
    | nil => rfl
    | cons b m => simp [sameToks]; intro _; exact ih m (by simpa using h)
theorem sameToks_refl (l : List Tok) : sameToks l l = true := by
  induction l with
  | nil => rfl
  | cons a l ih => simp [sameToks, sameTok, ih]

set_option maxHeartbeats 1000000 in
theorem same_any (va vb : Value) (l m : List Tok) (w : World) (ha : Reads w 3 va l.length (tokCells l)) (hb : Reads w 3 vb m.length (tokCells m)) :
    Calls Tryd.prog 12 #[va, vb] w fun e w' => e = .returned (.bool (sameToks l m)) ∧ Below w.heap.size w w' := by
  obtain ⟨_, hma, a, c, rfl, hca, hpa⟩ := ha
  obtain ⟨_, hmb, b, d, rfl, hcb, hpb⟩ := hb
  by_cases hne : l.length = m.length
  · rcases Nat.eq_zero_or_pos l.length with h0 | h0
    · have hl : l = [] := List.eq_nil_of_length_eq_zero h0
      have hm : m = [] := List.eq_nil_of_length_eq_zero (by omega)
      subst hl hm
      clear hpa hpb hne h0
      go_enter Tryd.func12, Tryd.ntmps12
      go_wp2_with fail
      refine wp_loop_rounds 1 ?_
      rw [rounds_succ]
      go_wp2_with fail
      go_ret
      exact ⟨rfl, Below.refl _ _⟩
    · obtain ⟨ba, oa, rfl, hca'⟩ := hpa h0
      obtain ⟨bb, ob, rfl, hcb'⟩ := hpb (by omega)
      rw [← hne]
      exact same_pos ba oa c bb ob d l.length l m w h0 hma rfl hne.symm hca' hcb'
  · have H := Lib.hid (sameToks_len l m hne)
    have hn : ((l.length : Int) != (m.length : Int)) = true := by rw [bne_iff_ne]; omega
    clear hpa hpb hne
    go_enter Tryd.func12, Tryd.ntmps12
    go_wp2_with fail
    go_ret
    exact ⟨ret_bool H.out.symm, Below.refl _ _⟩
end Go.Proofs.YtbabencadnlmlaaDoor
