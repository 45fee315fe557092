/- A part of the proofs of the laws of chapter 19: EvlH, EvlI, EvlJ, Aff, Chl, Afr, Asg, Avd. No condition beside sizes. -/
import Derived.Test.YtminnkihcohflaaMgG
import Derived.Test.YtminnkihcohflaaMgE
import Derived.Test.YtminnkihcohflaaMgD
namespace Go.Proofs.Ytminnkihcohflaa
open Go.RowKit Go.Lib Go.Shelf

/-- What apply gives. -/
def applyG (x : GExp) (la row : List GVal) : GVal := if arity x.op < 0 then gnull else xapp x.op x.col x.c row (la.getD 0 gnull) (la.getD 1 gnull)
theorem val_two {w : World} {v : Value} {l : List GVal} (h : Sl valE w free v l) (h2 : l.length = 2) : ∃ b o c g1 g2, v = .slice (some ⟨b, o, none⟩) 2 c ∧ l = [g1, g2] ∧
    w.cell? ⟨b, o, none⟩ = some (.int .i64 g1.kind) ∧ w.cell? ⟨b, o + 1, none⟩ = some (.int .i64 g1.n) ∧ w.cell? ⟨b, o + 2, none⟩ = some (.string g1.s) ∧
    w.cell? ⟨b, o + 3, none⟩ = some (.int .i64 g2.kind) ∧ w.cell? ⟨b, o + 3 + 1, none⟩ = some (.int .i64 g2.n) ∧ w.cell? ⟨b, o + 3 + 2, none⟩ = some (.string g2.s) := by
  obtain ⟨g1, g2, rfl⟩ : ∃ g1 g2, l = [g1, g2] := by
    match l, h2 with
    | [g1, g2], _ => exact ⟨g1, g2, rfl⟩
  obtain ⟨a, c, rfl⟩ := h.shape
  obtain ⟨b, o, rfl, p0, p1, p2⟩ := val_at h (k := 0) rfl
  obtain ⟨b', o', e, q0, q1, q2⟩ := val_at h (k := 1) rfl
  cases e
  simp only [Nat.zero_mul, Nat.add_zero, Nat.one_mul] at p0 p1 p2 q0 q1 q2
  exact ⟨b, o, c, g1, g2, rfl, rfl, p0, p1, p2, q0, q1, q2⟩
theorem val_one {w : World} {v : Value} {l : List GVal} (h : Sl valE w free v l) (h2 : l.length = 1) : ∃ b o c g1, v = .slice (some ⟨b, o, none⟩) 1 c ∧ l = [g1] ∧
    w.cell? ⟨b, o, none⟩ = some (.int .i64 g1.kind) ∧ w.cell? ⟨b, o + 1, none⟩ = some (.int .i64 g1.n) ∧ w.cell? ⟨b, o + 2, none⟩ = some (.string g1.s) := by
  obtain ⟨g1, rfl⟩ : ∃ g1, l = [g1] := by
    match l, h2 with
    | [g1], _ => exact ⟨g1, rfl⟩
  obtain ⟨a, c, rfl⟩ := h.shape
  obtain ⟨b, o, rfl, p0, p1, p2⟩ := val_at h (k := 0) rfl
  simp only [Nat.zero_mul, Nat.add_zero] at p0 p1 p2
  exact ⟨b, o, c, g1, rfl, rfl, p0, p1, p2⟩
set_option maxHeartbeats 1000000 in
theorem apply_any (x : GExp) (va vr : Value) (la row : List GVal) (w : World) (ha : Sl valE w free va la) (hr : Sl valE w free vr row) (hla : arity x.op < 0 ∨ la.length = (arity x.op).toNat) (hin : ∀ g ∈ la, In64 g.n) :
    Calls Try.prog 92 #[aggX x, va, vr] w fun e w' => e = .returned (aggG (applyG x la row)) ∧ Below w.heap.size w w' := by
  obtain ⟨op, xa, xb, col, c⟩ := x
  unfold applyG
  dsimp only at hla ⊢
  by_cases har : arity op < 0
  · rw [if_pos har]
    exact apply_unknown op har va vr xa xb col c w
  · rw [if_neg har]
    have hop : 1 ≤ op ∧ op ≤ 11 := by have := arity_cases op; omega
    replace hla := hla.resolve_left har
    by_cases h2 : 3 ≤ op ∧ op ≤ 9
    · obtain ⟨b, o, c1, ⟨k1, m1, s1⟩, ⟨k2, m2, s2⟩, rfl, rfl, p0, p1, p2, q0, q1, q2⟩ := val_two ha (by have := arity_cases op; omega)
      have n1 : In64 m1 := hin ⟨k1, m1, s1⟩ (by simp)
      have n2 : In64 m2 := hin ⟨k2, m2, s2⟩ (by simp)
      show Calls _ _ _ _ fun e w' => e = .returned (aggG (xapp op col c row ⟨k1, m1, s1⟩ ⟨k2, m2, s2⟩)) ∧ _
      have hx : ∀ y, (op = 3 ∨ op = 4 ∨ op = 5) → xapp op col c row ⟨k1, m1, s1⟩ y = arithG op ⟨k1, m1, s1⟩ y := fun y h => by rcases h with rfl | rfl | rfl <;> rfl
      rcases (by omega : (op = 3 ∨ op = 4 ∨ op = 5) ∨ op = 6 ∨ op = 7 ∨ op = 8 ∨ op = 9) with h | rfl | rfl | rfl | rfl
      · rw [hx _ h]
        exact apply_arith op h b o 2 c1 vr xa xb col c k1 m1 k2 m2 s1 s2 w (by omega) (by omega) n1 n2 p0 p1 p2 q0 q1 q2
      · by_cases e1 : k1 = 0
        · have := apply_6a b o 2 c1 vr xa xb col c k1 m1 k2 m2 s1 s2 w (by omega) (by omega) e1 p0 p1 p2 q0 q1 q2
          rw [show xapp 6 col c row ⟨k1, m1, s1⟩ ⟨k2, m2, s2⟩ = gbool false by subst e1; simp [xapp]]
          exact this
        · have e1' : (k1 != 0) = true := by simpa using e1
          by_cases e2 : k2 = 0
          · have := apply_6b b o 2 c1 vr xa xb col c k1 m1 k2 m2 s1 s2 w (by omega) (by omega) e1' e2 p0 p1 p2 q0 q1 q2
            rw [show xapp 6 col c row ⟨k1, m1, s1⟩ ⟨k2, m2, s2⟩ = gbool false by subst e2; simp [xapp]]
            exact this
          · have e2' : (k2 != 0) = true := by simpa using e2
            have := apply_6c b o 2 c1 vr xa xb col c k1 m1 k2 m2 s1 s2 w (by omega) (by omega) e1' e2' p0 p1 p2 q0 q1 q2
            rw [show xapp 6 col c row ⟨k1, m1, s1⟩ ⟨k2, m2, s2⟩ = gbool (cmpG ⟨k1, m1, s1⟩ ⟨k2, m2, s2⟩ == 0) by simp [xapp, e1', e2']]
            exact this
      · by_cases e1 : k1 = 0
        · have := apply_7a b o 2 c1 vr xa xb col c k1 m1 k2 m2 s1 s2 w (by omega) (by omega) e1 p0 p1 p2 q0 q1 q2
          rw [show xapp 7 col c row ⟨k1, m1, s1⟩ ⟨k2, m2, s2⟩ = gbool false by subst e1; simp [xapp]]
          exact this
        · have e1' : (k1 != 0) = true := by simpa using e1
          by_cases e2 : k1 = k2
          · have := apply_7c b o 2 c1 vr xa xb col c k1 m1 k2 m2 s1 s2 w (by omega) (by omega) e1' e2 p0 p1 p2 q0 q1 q2
            rw [show xapp 7 col c row ⟨k1, m1, s1⟩ ⟨k2, m2, s2⟩ = gbool (decide (cmpG ⟨k1, m1, s1⟩ ⟨k2, m2, s2⟩ < 0)) by subst e2; simp [xapp, e1']]
            exact this
          · have e2' : (k1 == k2) = false := by simpa using e2
            have := apply_7b b o 2 c1 vr xa xb col c k1 m1 k2 m2 s1 s2 w (by omega) (by omega) e1' e2' p0 p1 p2 q0 q1 q2
            rw [show xapp 7 col c row ⟨k1, m1, s1⟩ ⟨k2, m2, s2⟩ = gbool false by simp [xapp, e2']]
            exact this
      · exact apply_8 b o 2 c1 vr xa xb col c k1 m1 k2 m2 s1 s2 w (by omega) (by omega) p0 p1 p2 q0 q1 q2
      · exact apply_9 b o 2 c1 vr xa xb col c k1 m1 k2 m2 s1 s2 w (by omega) (by omega) p0 p1 p2 q0 q1 q2
    · by_cases h1 : op = 10 ∨ op = 11
      · obtain ⟨b, o, c1, ⟨k1, m1, s1⟩, rfl, rfl, p0, p1, p2⟩ := val_one ha (by have := arity_cases op; omega)
        rcases h1 with rfl | rfl
        · exact apply_10 b o 1 c1 vr xa xb col c k1 m1 s1 w (by omega) (by omega) p0 p1 p2
        · exact apply_11 b o 1 c1 vr xa xb col c k1 w (by omega) (by omega) p0
      · rcases (by omega : op = 1 ∨ op = 2) with rfl | rfl
        · exact apply_1 va vr xa xb col c w
        · obtain ⟨a2, c2, rfl⟩ := hr.shape
          by_cases hc : 0 ≤ col ∧ col < row.length
          · obtain ⟨C, rfl⟩ := Int.eq_ofNat_of_zero_le hc.1
            obtain ⟨g, hg⟩ := lget_some row C (by omega)
            obtain ⟨b4, o4, rfl, r0, r1, r2⟩ := val_at hr hg
            rw [show ∀ a b, xapp 2 (C : Int) c row a b = g from fun a b => by
              unfold xapp
              rw [if_neg (by decide), if_pos rfl, if_pos hc]
              simpa using getD_some hg]
            exact apply_2 va b4 o4 row.length c2 C xa xb c g.kind g.n g.s w (by omega) hr.1 r0 r1 r2
          · rw [show ∀ a b, xapp 2 col c row a b = gnull from fun a b => by
              unfold xapp
              rw [if_neg (by decide), if_pos rfl, if_neg hc]]
            exact apply_2n va a2 row.length c2 xa xb col c w hc
end Go.Proofs.Ytminnkihcohflaa

namespace Go.Proofs.Ytminnkihcohflaa
open Go.RowKit Go.Lib Go.Shelf
theorem cell_of {w : World} {g k : Nat} {c : Array Value} {t : TypeId} {fz : Nat × Nat} {v : Value} (h : w.heap[g]? = some (.cells c t fz)) (hk : c[k]? = some v) : w.cell? ⟨g, k, none⟩ = some v := by
  simp [World.cell?, h, hk]
theorem arity_lits (op : Int) : arity op = -1 ∨ arity op = 0 ∨ arity op = 1 ∨ arity op = 2 := by have := arity_cases op; omega
set_option maxHeartbeats 1000000 in
set_option maxRecDepth 100000 in
theorem operands_any (x : GExp) (w : World) :
    Calls Try.prog 90 #[aggX x] w fun e w' => ∃ v, e = .returned v ∧ Sl intE w' free v ([x.a, x.b].take (arity x.op).toNat) ∧ Below w.heap.size w w' := by
  obtain ⟨op, xa, xb, col, ck, cn, cs⟩ := x
  unfold aggX
  dsimp only
  have HA : ∀ W, Hid (Calls Try.prog 119 #[.int .i64 op] W fun e w' => e = .returned (.int .i64 (arity op)) ∧ W = w') := fun W => arity_any op W
  have hl := arity_lits op
  generalize arity op = a at HA hl ⊢
  have hB0 : Below w.heap.size w (w.alloc (.cells #[.int .i64 op, .int .i64 xa, .int .i64 xb, .int .i64 col, .int .i64 ck, .int .i64 cn, .string cs] 81)) := below_alloc _ _
  have hX := World.alloc_heap_new w (.cells #[.int .i64 op, .int .i64 xa, .int .i64 xb, .int .i64 col, .int .i64 ck, .int .i64 cn, .string cs] 81)
  have e0 : (w.alloc (.cells #[.int .i64 op, .int .i64 xa, .int .i64 xb, .int .i64 col, .int .i64 ck, .int .i64 cn, .string cs] 81)).cell? ⟨w.heap.size, 0, none⟩ = some (.int .i64 op) := cell_of hX rfl
  have e1 : (w.alloc (.cells #[.int .i64 op, .int .i64 xa, .int .i64 xb, .int .i64 col, .int .i64 ck, .int .i64 cn, .string cs] 81)).cell? ⟨w.heap.size, 1, none⟩ = some (.int .i64 xa) := cell_of hX rfl
  have e2 : (w.alloc (.cells #[.int .i64 op, .int .i64 xa, .int .i64 xb, .int .i64 col, .int .i64 ck, .int .i64 cn, .string cs] 81)).cell? ⟨w.heap.size, 2, none⟩ = some (.int .i64 xb) := cell_of hX rfl
  clear hX
  have hm0 : max (-1 : Int) 0 = 0 := by decide
  have hm1 : max (0 : Int) 0 = 0 := by decide
  have hm2 : max (1 : Int) 0 = 1 := by decide
  have hm3 : max (2 : Int) 0 = 2 := by decide
  rcases hl with rfl | rfl | rfl | rfl
  all_goals
    go_enter Try.func90, Try.ntmps90
    go_wp2_with fail
    go_region_held3 (fun W => Below w.heap.size w W ∧ W.cell? ⟨w.heap.size, 0, none⟩ = some (.int .i64 op) ∧ W.cell? ⟨w.heap.size, 1, none⟩ = some (.int .i64 xa) ∧ W.cell? ⟨w.heap.size, 2, none⟩ = some (.int .i64 xb))
      ((go_split_ands; refine ⟨?_, ?_, ?_, ?_⟩ <;> first | (with_reducible assumption) | with_reducible exact Below.drew (by assumption) | with_reducible exact cell_drew (by assumption) | with_reducible exact below_alloc_keep (by assumption) | with_reducible exact Below.drew (below_alloc_keep (by assumption)) | with_reducible exact cell_keep (below_alloc _ _) (by assumption)))
      (first
        | (go_at_call 119; refine (HA _).out.mono ?_; rintro e wA ⟨rfl, rfl⟩))
  all_goals
    go_wp2_with fail
    go_ret
    have hS : Sl intE ((w.alloc (.cells #[.int .i64 op, .int .i64 xa, .int .i64 xb, .int .i64 col, .int .i64 ck, .int .i64 cn, .string cs] 81)).alloc (.cells #[.int .i64 xa, .int .i64 xb] 3)).drew free (.slice (some ⟨w.heap.size + 1, 0, none⟩) 2 2) [xa, xb] :=
      Sl.of_block (heap2_1d w _ _) (Els.cons (cs := [.int .i64 xa]) rfl (Els.one (cs := [.int .i64 xb]) rfl)) (fun h => h.elim) rfl (by simp) (by simp)
    refine ⟨_, rfl, ?_, (below_alloc_keep hB0).drew⟩
    exact hS.takeS (by decide)
end Go.Proofs.Ytminnkihcohflaa

namespace Go.Proofs.Ytminnkihcohflaa
open Go.RowKit Go.Lib Go.Shelf

/-- The operands that an expression reads. -/
def opsG (x : GExp) : List Int := [x.a, x.b].take (arity x.op).toNat
theorem opsG_length (x : GExp) : (opsG x).length = (arity x.op).toNat := by
  have := arity_lits x.op
  unfold opsG
  rw [List.length_take]
  simp
  omega
theorem xev_ill (x : GExp) (k : Nat) (row d : List GVal) (o : Int) (ho : o ∈ opsG x) (h : legalB k o = false) : xev x k row d = gnull := by
  rw [xev, if_pos]
  right
  unfold opsG at ho
  unfold legalX
  rcases arity_lits x.op with e | e | e | e <;> rw [e] at ho ⊢ <;> simp at ho
  · subst ho; unfold legalB at h; rw [h]; rfl
  · rcases ho with rfl | rfl <;> unfold legalB at h <;> rw [h] <;> simp
theorem xev_leg (x : GExp) (k : Nat) (row d : List GVal) (h : ∀ o ∈ opsG x, legalB k o = true) : xev x k row d = applyG x ((opsG x).map fun o => d.getD o.toNat gnull) row := by
  unfold xev applyG
  by_cases ha : arity x.op < 0
  · rw [if_pos (.inl ha), if_pos ha]
  · have hl : legalX x k = true := by
      unfold opsG at h
      unfold legalX
      rcases arity_lits x.op with e | e | e | e <;> rw [e] at h ha ⊢ <;> simp at h ha ⊢
      · unfold legalB at h; simp at h; exact h
      · obtain ⟨h1, h2⟩ := h; unfold legalB at h1 h2; simp at h1 h2; exact ⟨h1, h2⟩
    rw [if_neg (by rw [hl]; simp [ha]), if_neg ha]
    unfold opsG
    rcases arity_lits x.op with e | e | e | e
    · omega
    · rw [e]; exact xapp_none (by omega) (by omega) _ _ _ _ _ _ _
    · rw [e]; exact xapp_one (by omega) (by omega) _ _ _ _ _ _
    · rw [e]; rfl
theorem vals_rep (l : List GExp) (row : List GVal) (R k : Nat) (hk : k < R + 1) (h : xev (l.getD k gx0) k row (vals l row k) = gnull) : vals l row k ++ List.replicate (R + 1 - k) gnull = vals l row (k + 1) ++ List.replicate (R + 1 - (k + 1)) gnull := by
  show _ = (vals l row k ++ [xev (l.getD k gx0) k row (vals l row k)]) ++ _
  rw [h, show R + 1 - k = R + 1 - (k + 1) + 1 by omega, List.replicate_succ, List.append_assoc]
  rfl
set_option maxHeartbeats 2000000 in
theorem eval_none (v vr : Value) (l : List GExp) (root : Int) (w : World) (hv : Sl expE w free v l) (hroot : root < 0 ∨ (l.length : Int) ≤ root) :
    Calls Try.prog 60 #[v, .int .i64 root, vr] w fun e w' => e = .returned (aggG gnull) ∧ Below w.heap.size w w' := by
  obtain ⟨a1, c1, rfl⟩ := hv.shape
  obtain ⟨n, hn⟩ : ∃ n, n = l.length := ⟨_, rfl⟩
  rw [← hn] at hroot ⊢
  clear hv hn
  go_enter Try.func60, Try.ntmps60
  by_cases h0 : root < 0
  · go_wp2_with fail
    apply wp_scope_straight
    go_wp2_with fail
    rw [Exit.noGoto_ret]
    exact bodyPost_ret (v := aggG gnull) (by simp [aggG, gnull, results, Try.results60, go_sem]) rfl ⟨rfl, (Below.refl _ _).alloc (Nat.le_refl _) _⟩
  · have h1 : (n : Int) ≤ root := by omega
    go_wp2_with fail
    apply wp_scope_straight
    go_wp2_with fail
    rw [Exit.noGoto_ret]
    exact bodyPost_ret (v := aggG gnull) (by simp [aggG, gnull, results, Try.results60, go_sem]) rfl ⟨rfl, (Below.refl _ _).alloc (Nat.le_refl _) _⟩
set_option maxRecDepth 100000 in
set_option maxHeartbeats 4000000 in
theorem eval_some (v vr : Value) (l : List GExp) (R : Nat) (row : List GVal) (w : World) (hv : Sl expE w free v l) (hr : Sl valE w free vr row) (hR : R < l.length) (hsz : 32 * (R + 1) ≤ 281474976710656) (hc : ∀ x ∈ l, In64 x.c.n) (hrow : ∀ g ∈ row, In64 g.n) :
    Calls Try.prog 60 #[v, .int .i64 (R : Int), vr] w fun e w' => e = .returned (aggG ((vals l row (R + 1)).getD R gnull)) ∧ Below w.heap.size w w' := by
  obtain ⟨a1, c1, rfl⟩ := hv.shape
  obtain ⟨a2, c2, rfl⟩ := hr.shape
  have h63 := hv.1
  have hcap : l.length ≤ c1 := by obtain ⟨_, a', c', e, h3, _⟩ := hv; cases e; exact h3
  have HV := Lib.hid hv
  have HRW := Lib.hid hr
  have HC := Lib.hid hc
  have HRO := Lib.hid hrow
  obtain ⟨n, hn⟩ : ∃ n, n = l.length := ⟨_, rfl⟩
  obtain ⟨m, hm⟩ : ∃ m, m = row.length := ⟨_, rfl⟩
  have HN := Lib.hid hn
  have HM := Lib.hid hm
  rw [← hn] at hR h63 HV hcap ⊢
  rw [← hm] at HRW ⊢
  have hR1 : (R : Int) + 1 ≤ c1 := by omega
  clear hv hr hc hrow hn hm
  obtain ⟨i0, hi, hj0, hj1, hj2⟩ := val_parts
  go_enter Try.func60, Try.ntmps60
  go_wp2_with fail
  apply wp_scope_straight
  go_wp2_with (at_make; refine wpList_make_full _ rfl _ _ 34 rfl (w.heap.size + 1) 79 i0 _ 3 Try.underlying34 hi hj0 hj1 _ _ _ _ (R + 1) rfl rfl (by go_num) (by go_num) (by rw [hj2]; omega) (by unfold maxLen; omega) (by simp) ?_; intro w1 hown1 hg1)
  apply wp_label
  have hO1 : Own valE w1 (w.heap.size + 1) (.slice (some ⟨w.heap.size + 1, 0, none⟩) (R + 1) (R + 1)) (List.replicate (R + 1) gnull) := own_made (by have h := hown1; rw [show (w.alloc (.cells #[.int .i64 0, .int .i64 0, .string ⟨#[]⟩] 79)).heap.size = w.heap.size + 1 by simp] at h; exact h)
  have hB1 : Below w.heap.size w w1 := ((Below.refl _ _).alloc (Nat.le_refl _) _).grown hg1 (by simp) (fun k hk => by cases hk)
  have hx1 : w1.heap[w.heap.size]? = some (.cells #[.int .i64 0, .int .i64 0, .string ⟨#[]⟩] 79 (0, 0)) := (hg1.block w.heap.size (by simp) (by simp)).trans (World.alloc_heap_new w _)
  clear hown1 hg1
  go_wp2_with fail
  go_loopw [30] (fun i wr => ∃ k : Nat, k ≤ R + 1 ∧ i = .int .i64 k ∧ Own valE wr (w.heap.size + 1) (.slice (some ⟨w.heap.size + 1, 0, none⟩) (R + 1) (R + 1)) (vals l row k ++ List.replicate (R + 1 - k) gnull) ∧ wr.heap[w.heap.size]? = some (.cells #[.int .i64 0, .int .i64 0, .string ⟨#[]⟩] 79 (0, 0)) ∧ Below w.heap.size w wr) (fun i _ => R + 1 - (intOf i).toNat)
  case atStart => exact ⟨0, Nat.zero_le _, rfl, hO1, hx1, hB1⟩
  case round =>
    obtain ⟨k, hk, rfl, hO, hx, hB⟩ := hrel
    obtain ⟨wo, rfl⟩ : ∃ wo : World, wo = wr := ⟨_, rfl⟩
    clear hO1 hx1 hB1
    by_cases hlt : k < R + 1
    · obtain ⟨x, hgx⟩ := lget_some l k (by rw [← HN.out]; omega)
      obtain ⟨b, o, rfl, p0, p1, p2, p3, p4, p5, p6⟩ := exp_at (HV.out.below hB) hgx
      have hbo : b < w.heap.size := by
        obtain ⟨b', o', e, q0, _⟩ := exp_at HV.out hgx
        cases e
        exact World.block_lt_of_cell? w _ q0
      have HX : Hid (xev (l.getD k gx0) k row (vals l row k) = xev x k row (vals l row k)) := by show _ = _; rw [getD_some hgx]
      have HO := Lib.hid hO
      have HXB := Lib.hid hx
      have HB := Lib.hid hB
      have hzo := hB.size
      obtain ⟨op, xa, xb, col, ck, cn, cs⟩ := x
      dsimp only at p0 p1 p2 p3 p4 p5 p6
      clear hgx hO hx hB
      go_wp2_with fail
      refine (operands_any ⟨op, xa, xb, col, ⟨ck, cn, cs⟩⟩ _).mono ?_
      rintro e w2 ⟨vo, rfl, hOp, hb2⟩
      replace hOp : Sl intE w2 free vo (opsG ⟨op, xa, xb, col, ⟨ck, cn, cs⟩⟩) := hOp
      have hql := opsG_length ⟨op, xa, xb, col, ⟨ck, cn, cs⟩⟩
      have hal := arity_lits op
      dsimp only at hql
      obtain ⟨ol, hol⟩ : ∃ ol, ol = opsG ⟨op, xa, xb, col, ⟨ck, cn, cs⟩⟩ := ⟨_, rfl⟩
      obtain ⟨q, hq⟩ : ∃ q, q = ol.length := ⟨_, rfl⟩
      rw [← hol] at hOp hql
      obtain ⟨a3, c3, rfl⟩ := hOp.shape
      rw [← hq] at hOp hql ⊢
      have hq2 : q ≤ 2 := by omega
      have HQA : Hid (q = (arity op).toNat) := hql
      have HOL := Lib.hid hol
      have HQ := Lib.hid hq
      have HOP := Lib.hid hOp
      have hbx := box_kept (World.alloc_heap_new wo (.cells #[.int .i64 op, .int .i64 xa, .int .i64 xb, .int .i64 col, .int .i64 ck, .int .i64 cn, .string cs] 81)) hb2
      have hbw : Below wo.heap.size wo w2 := below_alloc2' hb2
      have HBX := Lib.hid hbx
      have HBW := Lib.hid hbw
      have hz2 : wo.heap.size + 1 ≤ w2.heap.size := by simpa using hb2.size
      clear hOp hql hal hol hq hbx hbw hb2 p0 p1 p2 p3 p4 p5 p6
      go_wp2_with fail
      go_loopw [38, 10] (fun i ar w4 => ∃ (j : Nat) (la : List GVal), j ≤ q ∧ i = .int .i64 j ∧ Own valE w4 w2.heap.size ar la ∧ Hid (la = (ol.take j).map fun o => (vals l row k).getD o.toNat gnull) ∧ Hid (∀ o ∈ ol.take j, legalB k o = true) ∧ Below w2.heap.size w2 w4) (fun i _ _ => q - (intOf i).toNat)
      case atStart => exact ⟨0, [], Nat.zero_le _, rfl, Own.nil _ _ _, by show _ = _; simp, by show ∀ _ ∈ _, _; simp, Below.refl _ _⟩
      case round =>
        obtain ⟨j, la, hj, rfl, hO4, HLA, HLG, hB4⟩ := hrel
        obtain ⟨w4, rfl⟩ : ∃ w4 : World, w4 = wr := ⟨_, rfl⟩
        obtain ⟨ob, oc, rfl⟩ := hO4.shape
        have hll : la.length = j := by rw [HLA.out, List.length_map, List.length_take, ← HQ.out]; omega
        have hBw : Below w.heap.size w w4 := below_keep (below_keep HB.out HBW.out) hB4
        have hOv := (HO.out.below HBW.out).below hB4
        have hxr := box_kept (box_kept HXB.out HBW.out) hB4
        have hz4 := hB4.size
        have HOV := Lib.hid hOv
        have HXR := Lib.hid hxr
        have HBW4 := Lib.hid hBw
        have HO4 := Lib.hid hO4
        have HB4 := Lib.hid hB4
        have HLL := Lib.hid hll
        have hl2 : la.length ≤ 2 := by omega
        clear hll
        have hvl : (vals l row k ++ List.replicate (R + 1 - k) gnull).length = R + 1 := by simp [vals_length]; omega
        by_cases hlt4 : j < q
        · obtain ⟨y, hy⟩ := lget_some ol j (by rw [← HQ.out]; exact hlt4)
          obtain ⟨bA, oA, rfl, hat⟩ := ints_at' HOP.out hy
          replace hat := cell_keep hB4 hat
          have HY := Lib.hid hy
          have HCL : ∀ W, Hid (Calls Try.prog 91 #[.int .i64 (k : Int), .int .i64 y] W fun e w' => e = .returned (.bool (legalB k y)) ∧ W = w') := fun W => legal_any _ _ W
          have hmem : y ∈ ol := List.mem_of_getElem? hy
          clear hO4 hB4 hBw hOv hxr hy
          cases hlg : legalB k y
          · rw [hlg] at HCL
            have HT : Hid (vals l row k ++ List.replicate (R + 1 - k) gnull = vals l row (k + 1) ++ List.replicate (R + 1 - (k + 1)) gnull) :=
              vals_rep l row R k hlt (HX.out.trans (xev_ill _ k row _ y (by rw [← HOL.out]; exact hmem) hlg))
            clear hlg hmem hvl
            go_wp2_with fail
            refine (HCL _).out.mono ?_
            rintro e w5 ⟨rfl, rfl⟩
            go_wp2_with fail
            go_roundw
            case rel => exact ⟨k + 1, by omega, by go_num, by rw [← HT.out]; exact HOV.out, HXR.out, HBW4.out⟩
            case measure => simp [intOf]; omega
          · rw [hlg] at HCL
            obtain ⟨Y, rfl⟩ := Int.eq_ofNat_of_zero_le (show 0 ≤ y by unfold legalB at hlg; simp at hlg; exact hlg.1)
            have hYk : Y < k := by unfold legalB at hlg; simp at hlg; exact hlg
            obtain ⟨z, hz⟩ := lget_some (vals l row k ++ List.replicate (R + 1 - k) gnull) Y (by omega)
            obtain ⟨q0, q1, q2⟩ := own_at3 HOV.out hz
            have HZ : Hid ((vals l row k).getD Y gnull = z) := by
              show _ = _
              rw [← getD_left (vals l row k) (List.replicate (R + 1 - k) gnull) gnull (by rw [vals_length]; exact hYk), getD_some hz]
            have HLG' : Hid (∀ o ∈ ol.take (j + 1), legalB k o = true) := by
              show ∀ o ∈ _, _
              rw [take_get HY.out]
              intro o ho
              rcases List.mem_append.1 ho with h | h
              · exact HLG.out o h
              · rw [List.mem_singleton.1 h]; exact hlg
            have HLA' : Hid (la ++ [z] = (ol.take (j + 1)).map fun o => (vals l row k).getD o.toNat gnull) := by
              show _ = _
              rw [take_get HY.out, List.map_append, ← HLA.out]
              simp only [List.map_cons, List.map_nil, Int.toNat_natCast, HZ.out]
            have hYR : Y < R + 1 := by omega
            have hvz := (HOV.out.lt _ rfl).2
            clear hlg hz hmem hvl
            go_wp2_with fail
            refine (HCL _).out.mono ?_
            rintro e w5 ⟨rfl, rfl⟩
            go_wp2_with (at_builtin; refine wpList_push rfl _ _ 34 rfl valE Try.underlying34 w2.heap.size (.slice ob la.length oc) la rfl HO4.out [z] #[.int .i64 z.kind, .int .i64 z.n, .string z.s] (Els.one (cs := [.int .i64 z.kind, .int .i64 z.n, .string z.s]) rfl) 1 1 rfl rfl (by decide) (by unfold maxLen; omega) (by show _ * 32 ≤ _; omega) hz4 ?_; intro g cap w5 hP hPa)
            go_roundw
            case rel => exact ⟨j + 1, la ++ [z], by omega, by go_num, hP.own' (by simp), HLA', HLG', HB4.out.trans hP.below⟩
            case measure => simp [intOf]; omega
        · have hjq : j = q := by omega
          subst hjq
          have hall : ol.take j = ol := List.take_of_length_le (by rw [← HQ.out]; omega)
          have HAP : Hid (applyG ⟨op, xa, xb, col, ⟨ck, cn, cs⟩⟩ la row = xev (l.getD k gx0) k row (vals l row k)) := by
            show _ = _
            rw [HX.out, xev_leg _ k row _ (by rw [← HOL.out, ← hall]; exact HLG.out), HLA.out, hall, HOL.out]
          have hap := apply_any ⟨op, xa, xb, col, ⟨ck, cn, cs⟩⟩ (.slice ob la.length oc) (.slice a2 m c2) la row w4 hO4.sl (HRW.out.below HBW4.out) (.inr (HLL.out.trans HQA.out)) (by
            rw [HLA.out, hall]
            intro g hg
            obtain ⟨o', ho', rfl⟩ := List.mem_map.1 hg
            by_cases hlo : o'.toNat < (vals l row k).length
            · obtain ⟨z, hz⟩ := lget_some (vals l row k) o'.toNat hlo
              rw [getD_some hz]
              exact in64_vals l row HC.out HRO.out k z (List.mem_of_getElem? hz)
            · rw [show (vals l row k).getD o'.toNat gnull = gnull by rw [List.getD_eq_getElem?_getD, List.getElem?_eq_none (by omega)]; rfl]
              exact in64_gnull)
          rw [HAP.out] at hap
          obtain ⟨y, hy⟩ : ∃ y, y = xev (l.getD k gx0) k row (vals l row k) := ⟨_, rfl⟩
          rw [← hy] at hap
          have HY := Lib.hid hy
          have HAPP := Lib.hid hap
          have hbx4 := box_kept HBX.out hB4
          have x0 : w4.cell? ⟨wo.heap.size, 0, none⟩ = some (.int .i64 op) := cell_of hbx4 rfl
          have x1 : w4.cell? ⟨wo.heap.size, 1, none⟩ = some (.int .i64 xa) := cell_of hbx4 rfl
          have x2 : w4.cell? ⟨wo.heap.size, 2, none⟩ = some (.int .i64 xb) := cell_of hbx4 rfl
          have x3 : w4.cell? ⟨wo.heap.size, 3, none⟩ = some (.int .i64 col) := cell_of hbx4 rfl
          have x4 : w4.cell? ⟨wo.heap.size, 4, none⟩ = some (.int .i64 ck) := cell_of hbx4 rfl
          have x5 : w4.cell? ⟨wo.heap.size, 5, none⟩ = some (.int .i64 cn) := cell_of hbx4 rfl
          have x6 : w4.cell? ⟨wo.heap.size, 6, none⟩ = some (.string cs) := cell_of hbx4 rfl
          clear hap hall hy hO4 hB4 hBw hOv hxr hbx4
          go_wp2_with fail
          refine HAPP.out.mono ?_
          rintro e w5 ⟨rfl, hb5⟩
          have hO5 := HOV.out.below hb5
          have hx5 := box_kept HXR.out hb5
          have hB5 : Below w.heap.size w w5 := HBW4.out.trans (hb5.mono HBW4.out.size)
          have HV5 : Hid ((vals l row k ++ List.replicate (R + 1 - k) gnull).set k y = vals l row (k + 1) ++ List.replicate (R + 1 - (k + 1)) gnull) := by
            show _ = _
            have h := fill_set (vals l row k) gnull y (R + 1 - (k + 1))
            rw [vals_length, show R + 1 - (k + 1) + 1 = R + 1 - k by omega] at h
            rw [h, HY.out]; rfl
          have hS := own_set3 hO5 hvl hlt y
          rw [HV5.out] at hS
          obtain ⟨z, hz⟩ := lget_some (vals l row k ++ List.replicate (R + 1 - k) gnull) k (by omega)
          obtain ⟨q0, q1, q2⟩ := own_at3 hO5 hz
          have f0 := own_frozen hO5 hvl (k * 3)
          have f1 := own_frozen hO5 hvl (k * 3 + 1)
          have f2 := own_frozen hO5 hvl (k * 3 + 2)
          have HS := Lib.hid hS
          have HX5 := Lib.hid hx5
          have HB5 := Lib.hid hB5
          have hsz5 := hb5.size
          have hsz3 := (hO5.lt _ rfl).2
          clear hO5 hx5 hB5 hS hz hvl hb5 HAPP x0 x1 x2 x3 x4 x5 x6
          unfold aggG
          go_wp2_with fail
          go_roundw
          case rel =>
            refine ⟨k + 1, by omega, by go_num, HS.out, ?_, ((HB5.out.setCell (Nat.le_succ _) _).setCell (Nat.le_succ _) _).setCell (Nat.le_succ _) _⟩
            rw [heap_setCell_other _ _ _ _ (Nat.ne_of_lt (Nat.lt_succ_self _)), heap_setCell_other _ _ _ _ (Nat.ne_of_lt (Nat.lt_succ_self _)), heap_setCell_other _ _ _ _ (Nat.ne_of_lt (Nat.lt_succ_self _))]
            exact HX5.out
          case measure => simp [intOf]; omega
    · have hkR : k = R + 1 := by omega
      subst hkR
      obtain ⟨z, hz⟩ := lget_some (vals l row (R + 1) ++ List.replicate (R + 1 - (R + 1)) gnull) R (by simp [vals_length])
      obtain ⟨p0, p1, p2⟩ := own_at3 hO hz
      have HG : Hid ((vals l row (R + 1)).getD R gnull = z) := by
        show _ = _
        rw [← getD_left (vals l row (R + 1)) (List.replicate (R + 1 - (R + 1)) gnull) gnull (by rw [vals_length]; omega), getD_some hz]
      obtain ⟨⟨x0, x1, x2⟩, f0, f1, f2⟩ := box_three hx
      have hsz3 := hB.size
      have HB := Lib.hid hB
      have hsz4 := (hO.lt _ rfl).2
      clear hO hx hB hz
      go_wp2_with fail
      have hwz : w.heap.size < wo.heap.size := by omega
      exact bodyPost_ret (v := aggG z) (by simp [aggG, results, Try.results60, go_sem, x0, x1, x2]) rfl ⟨by rw [HG.out], ((HB.out.setCell (Nat.le_refl _) _).setCell (Nat.le_refl _) _).setCell (Nat.le_refl _) _⟩
/-- The program's Eval is the definition's. -/
theorem eval_any (v vr : Value) (l : List GExp) (root : Int) (row : List GVal) (w : World) (hv : Sl expE w free v l) (hr : Sl valE w free vr row) (hsz : 32 * l.length ≤ 281474976710656) (hc : ∀ x ∈ l, In64 x.c.n) (hrow : ∀ g ∈ row, In64 g.n) :
    Calls Try.prog 60 #[v, .int .i64 root, vr] w fun e w' => e = .returned (aggG (evalG l root row)) ∧ Below w.heap.size w w' := by
  unfold evalG
  by_cases h : root < 0 ∨ (l.length : Int) ≤ root
  · rw [if_pos h]; exact eval_none v vr l root w hv h
  · rw [if_neg h]
    obtain ⟨R, rfl⟩ := Int.eq_ofNat_of_zero_le (show 0 ≤ root by omega)
    exact eval_some v vr l R row w hv hr (by omega) (by omega) hc hrow
end Go.Proofs.Ytminnkihcohflaa

namespace Go.Proofs.Ytminnkihcohflaa
open Go.RowKit Go.Lib Go.Shelf

/-- What was there before the call is clear of a row of the call's own. -/
theorem Sl.clearOf {P : Program} {α : Type} {E : El P α} {w0 w : World} {G : Nat → Prop} {v u : Value} {ys : List α} (hu : Sl E w0 G u ys) (hb : Below w0.heap.size w0 w) (hlt : ∀ k, v.ownBlock = some k → w0.heap.size ≤ k) : Sl E w (fun k => some k = v.ownBlock) u ys :=
  ((hu.old (Nat.le_refl _)).below hb).mono (fun k _ hk => hlt k hk.symm)

theorem Sl.clearOr {P : Program} {α : Type} {E : El P α} {w0 w : World} {G D : Nat → Prop} {v u : Value} {ys : List α} (hu : Sl E w0 (fun k => G k ∨ D k) u ys) (hb : Below w0.heap.size w0 w) (hlt : ∀ k, v.ownBlock = some k → w0.heap.size ≤ k) : Sl E w (fun k => some k = v.ownBlock ∨ D k) u ys :=
  ((hu.mono (G' := fun k => w0.heap.size ≤ k ∨ D k) (fun k hk h => h.elim (fun h => by omega) .inr)).below hb).mono (fun k _ hk => hk.imp (fun h => hlt k h.symm) id)
def keepV (plo phi : Int) (e : List GExp) (pred : Int) (v : Ver) : Bool := (v.rhi == 1099511627776) && isOk v.lo v.hi plo phi && isTrueG (evalG e pred v.vals)
/-- The affected versions. -/
def affV (plo phi : Int) (e : List GExp) (pred : Int) (l : List Ver) : List Ver := sortV (l.filter (keepV plo phi e pred))
set_option maxHeartbeats 1000000 in
theorem current_any (x : Ver) (vx : Value) (w : World) :
    Calls Try.prog 96 #[.agg #[.int .i64 x.id, vx, .int .i64 x.lo, .int .i64 x.hi, .int .i64 x.rlo, .int .i64 x.rhi]] w fun e w' => e = .returned (.bool (x.rhi == 1099511627776)) ∧ Below w.heap.size w w' := by
  go_enter Try.func96, Try.ntmps96
  go_wp2_with fail
  go_ret
  exact ⟨rfl, below_alloc _ _⟩
set_option maxHeartbeats 4000000 in
set_option maxRecDepth 100000 in
theorem affected_any {D : Nat → Prop} (v ve : Value) (l : List Ver) (plo phi : Int) (e : List GExp) (pred : Int) (w : World) (hv : Sl (verE.avoid D) w free v l) (he : Sl expE w free ve e) (hl : l.length ≤ 20) (hel : e.length ≤ 1000) (hc : ∀ x ∈ e, In64 x.c.n) (hvn : ∀ x ∈ l, ∀ g ∈ x.vals, In64 g.n) :
    Calls Try.prog 84 #[v, .agg #[.int .i64 plo, .int .i64 phi], ve, .int .i64 pred] w (RetOwn (verE.avoid D) w (affV plo phi e pred l)) := by
  obtain ⟨a, c, rfl⟩ := hv.shape
  obtain ⟨a2, c2, rfl⟩ := he.shape
  have HV := Lib.hid hv
  have HE := Lib.hid he
  have HC := Lib.hid hc
  have HVN := Lib.hid hvn
  obtain ⟨n, hn⟩ : ∃ n, n = l.length := ⟨_, rfl⟩
  obtain ⟨m, hm⟩ : ∃ m, m = e.length := ⟨_, rfl⟩
  have HN := Lib.hid hn
  have HM := Lib.hid hm
  have h63 := hv.1
  rw [← hn] at h63 HV hl ⊢
  rw [← hm] at HE hel ⊢
  clear hv he hc hvn hn hm
  go_enter Try.func84, Try.ntmps84
  go_wp2_with fail
  go_loopw [17, 9] (fun i o wr => ∃ k : Nat, k ≤ n ∧ i = .int .i64 k ∧ Own (verE.avoid D) wr (w.heap.size + 1) o ((l.take k).filter (keepV plo phi e pred)) ∧ wr.heap[w.heap.size]? = some (.cells #[.int .i64 plo, .int .i64 phi] 31 (0, 0)) ∧ Below w.heap.size w wr) (fun i _ _ => n - (intOf i).toNat)
  case atStart => exact ⟨0, Nat.zero_le _, rfl, Own.nil _ _ _, World.alloc_heap_new w _, below_alloc _ _⟩
  case round =>
    obtain ⟨k, hk, rfl, hO, hxp, hB⟩ := hrel
    obtain ⟨wo, rfl⟩ : ∃ wo : World, wo = wr := ⟨_, rfl⟩
    obtain ⟨oa, oc, rfl⟩ := hO.shape
    have hzo := hB.size
    by_cases hlt : k < n
    · obtain ⟨x, hx⟩ := lget_some l k (by rw [← HN.out]; exact hlt)
      obtain ⟨b, o, a1, c1v, rfl, hvv, p0, p1, p2, p3, p4, p5⟩ := vers_at (HV.out.below hB) hx
      have hxn := HVN.out x (List.mem_of_getElem? hx)
      have HX := Lib.hid hx
      have HVV := Lib.hid hvv
      have HXN := Lib.hid hxn
      have HVC : Hid (Sl valE w (fun k => free k ∨ D k) (.slice a1 x.vals.length c1v) x.vals) := by
        obtain ⟨b', o', a1', c1v', e', hv', q0, q1, _⟩ := vers_at HV.out (HX.out)
        cases e'
        have h1 := cell_keep hB q1
        rw [p1] at h1
        cases h1
        exact hv'
      have HO := Lib.hid hO
      have HB := Lib.hid hB
      obtain ⟨xid, xvals, xlo, xhi, xrlo, xrhi⟩ := x
      dsimp only at p0 p1 p2 p3 p4 p5 HVV HXN HVC
      obtain ⟨nv, hnv⟩ : ∃ nv, nv = xvals.length := ⟨_, rfl⟩
      rw [← hnv] at p1 HVV HVC
      have HNV := Lib.hid hnv
      have hflen : ((l.take k).filter (keepV plo phi e pred)).length ≤ 20 := by
        refine Nat.le_trans (List.length_filter_le _ _) ?_
        rw [List.length_take]; omega
      have HXP := Lib.hid hxp
      obtain ⟨y0, y1, _, _⟩ := box_two hxp
      have hwz : w.heap.size < wo.heap.size := by
        have := World.block_lt_of_cell? wo _ y0
        exact this
      clear hx hvv hxn hO hB hxp hnv
      go_wp2_with fail
      refine (isect_any xlo xhi plo phi _).mono ?_
      rintro _ w2 ⟨rfl, hb2⟩
      have hbv := box_kept (World.alloc_heap_new wo (.cells #[.int .i64 xid, .slice a1 nv c1v, .int .i64 xlo, .int .i64 xhi, .int .i64 xrlo, .int .i64 xrhi] 59)) hb2
      have hB2 : Below wo.heap.size wo w2 := below_alloc2' hb2
      have hz2 : wo.heap.size + 1 ≤ w2.heap.size := by simpa using hb2.size
      have HBV := Lib.hid hbv
      have HB2 := Lib.hid hB2
      obtain ⟨ok, hok⟩ : ∃ ok, ok = isOk xlo xhi plo phi := ⟨_, rfl⟩
      rw [← hok]
      have HOK := Lib.hid hok
      obtain ⟨qlo, hqlo⟩ : ∃ q, q = isLo xlo xhi plo phi := ⟨_, rfl⟩
      obtain ⟨qhi, hqhi⟩ : ∃ q, q = isHi xlo xhi plo phi := ⟨_, rfl⟩
      rw [← hqlo, ← hqhi]
      have hbva := (below_alloc w2 (.cells #[.int .i64 qlo, .int .i64 qhi] 31)).block wo.heap.size (by omega)
      rw [hbv] at hbva
      have x0 : (w2.alloc (.cells #[.int .i64 qlo, .int .i64 qhi] 31)).cell? ⟨wo.heap.size, 0, none⟩ = some (.int .i64 xid) := cell_of hbva rfl
      have x1 : (w2.alloc (.cells #[.int .i64 qlo, .int .i64 qhi] 31)).cell? ⟨wo.heap.size, 1, none⟩ = some (.slice a1 nv c1v) := cell_of hbva rfl
      have x2 : (w2.alloc (.cells #[.int .i64 qlo, .int .i64 qhi] 31)).cell? ⟨wo.heap.size, 2, none⟩ = some (.int .i64 xlo) := cell_of hbva rfl
      have x3 : (w2.alloc (.cells #[.int .i64 qlo, .int .i64 qhi] 31)).cell? ⟨wo.heap.size, 3, none⟩ = some (.int .i64 xhi) := cell_of hbva rfl
      have x4 : (w2.alloc (.cells #[.int .i64 qlo, .int .i64 qhi] 31)).cell? ⟨wo.heap.size, 4, none⟩ = some (.int .i64 xrlo) := cell_of hbva rfl
      have x5 : (w2.alloc (.cells #[.int .i64 qlo, .int .i64 qhi] 31)).cell? ⟨wo.heap.size, 5, none⟩ = some (.int .i64 xrhi) := cell_of hbva rfl
      clear hbv hbva hB2 hb2 p0 p1 p2 p3 p4 p5 y0 y1 hok hqlo hqhi
      have HEV : Hid (Calls Try.prog 60 #[.slice a2 m c2, .int .i64 pred, .slice a1 nv c1v] (w2.alloc (.cells #[.int .i64 qlo, .int .i64 qhi] 31)) fun e' w' => e' = .returned (aggG (evalG e pred xvals)) ∧ Below (w2.alloc (.cells #[.int .i64 qlo, .int .i64 qhi] 31)).heap.size (w2.alloc (.cells #[.int .i64 qlo, .int .i64 qhi] 31)) w') :=
        eval_any _ _ e pred xvals (w2.alloc (.cells #[.int .i64 qlo, .int .i64 qhi] 31)) ((HE.out.below (HB.out.trans (HB2.out.mono hzo))).below (below_alloc _ _)) ((HVV.out.free.below HB2.out).below (below_alloc _ _)) (by rw [← HM.out]; omega) HC.out HXN.out
      obtain ⟨hg, hhg⟩ : ∃ g, g = evalG e pred xvals := ⟨_, rfl⟩
      rw [← hhg] at HEV
      have HHG := Lib.hid hhg
      clear hhg
      go_wp2_with fail
      refine HEV.out.mono ?_
      rintro _ w3 ⟨rfl, hb3⟩
      have hbv3 := box_kept (HBV.out) (below_alloc2' hb3)
      have hB3 : Below wo.heap.size wo w3 := HB2.out.trans ((below_alloc2' hb3).mono HB2.out.size)
      have hz3 : w2.heap.size + 1 ≤ w3.heap.size := by simpa using hb3.size
      have hbva := (below_alloc w3 (.cells #[.int .i64 hg.kind, .int .i64 hg.n, .string hg.s] 79)).block wo.heap.size (by omega)
      rw [hbv3] at hbva
      have HBV3 := Lib.hid hbv3
      have HB3 := Lib.hid hB3
      clear x0 x1 x2 x3 x4 x5 HEV
      have x0 : (w3.alloc (.cells #[.int .i64 hg.kind, .int .i64 hg.n, .string hg.s] 79)).cell? ⟨wo.heap.size, 0, none⟩ = some (.int .i64 xid) := cell_of hbva rfl
      have x1 : (w3.alloc (.cells #[.int .i64 hg.kind, .int .i64 hg.n, .string hg.s] 79)).cell? ⟨wo.heap.size, 1, none⟩ = some (.slice a1 nv c1v) := cell_of hbva rfl
      have x2 : (w3.alloc (.cells #[.int .i64 hg.kind, .int .i64 hg.n, .string hg.s] 79)).cell? ⟨wo.heap.size, 2, none⟩ = some (.int .i64 xlo) := cell_of hbva rfl
      have x3 : (w3.alloc (.cells #[.int .i64 hg.kind, .int .i64 hg.n, .string hg.s] 79)).cell? ⟨wo.heap.size, 3, none⟩ = some (.int .i64 xhi) := cell_of hbva rfl
      have x4 : (w3.alloc (.cells #[.int .i64 hg.kind, .int .i64 hg.n, .string hg.s] 79)).cell? ⟨wo.heap.size, 4, none⟩ = some (.int .i64 xrlo) := cell_of hbva rfl
      have x5 : (w3.alloc (.cells #[.int .i64 hg.kind, .int .i64 hg.n, .string hg.s] 79)).cell? ⟨wo.heap.size, 5, none⟩ = some (.int .i64 xrhi) := cell_of hbva rfl
      clear hbva hbv3 hB3 hb3
      unfold aggG
      go_wp2_with fail
      refine (current_any ⟨xid, xvals, xlo, xhi, xrlo, xrhi⟩ _ _).mono ?_
      rintro _ w4 ⟨rfl, hb4⟩
      dsimp only
      have hB4 : Below wo.heap.size wo w4 := HB3.out.trans ((below_alloc2' hb4).mono HB3.out.size)
      have hh4 := box_kept (World.alloc_heap_new w3 (.cells #[.int .i64 hg.kind, .int .i64 hg.n, .string hg.s] 79)) hb4
      have hbv4 := box_kept HBV3.out (below_alloc2' hb4)
      obtain ⟨⟨g0, g1, g2⟩, _⟩ := box_three hh4
      have HO4 := Lib.hid (HO.out.below hB4)
      have HXP4 := Lib.hid (box_kept HXP.out hB4)
      have HB4w := Lib.hid (HB.out.trans (hB4.mono hzo))
      have hz4 : w3.heap.size + 1 ≤ w4.heap.size := by simpa using hb4.size
      obtain ⟨cur, hcur⟩ : ∃ cur, cur = (xrhi == 1099511627776) := ⟨_, rfl⟩
      have HKV : Hid (keepV plo phi e pred ⟨xid, xvals, xlo, xhi, xrlo, xrhi⟩ = (cur && ok && isTrueG hg)) := by
        show _ = _
        rw [hcur, HOK.out, HHG.out]
        rfl
      rw [← hcur]
      clear x0 x1 x2 x3 x4 x5 hB4 hh4 hb4 hcur
      have HBV4 := Lib.hid hbv4
      have x0 : w4.cell? ⟨wo.heap.size, 0, none⟩ = some (.int .i64 xid) := cell_of hbv4 rfl
      have x1 : w4.cell? ⟨wo.heap.size, 1, none⟩ = some (.slice a1 nv c1v) := cell_of hbv4 rfl
      have x2 : w4.cell? ⟨wo.heap.size, 2, none⟩ = some (.int .i64 xlo) := cell_of hbv4 rfl
      have x3 : w4.cell? ⟨wo.heap.size, 3, none⟩ = some (.int .i64 xhi) := cell_of hbv4 rfl
      have x4 : w4.cell? ⟨wo.heap.size, 4, none⟩ = some (.int .i64 xrlo) := cell_of hbv4 rfl
      have x5 : w4.cell? ⟨wo.heap.size, 5, none⟩ = some (.int .i64 xrhi) := cell_of hbv4 rfl
      clear hbv4
      cases cur
      · 
        have HT : Hid ((l.take (k + 1)).filter (keepV plo phi e pred) = (l.take k).filter (keepV plo phi e pred)) := by
          show _ = _
          rw [take_get HX.out, List.filter_append, List.filter_cons_of_neg (by rw [HKV.out]; simp)]
          simp
        go_wp2_with fail
        go_roundw
        case rel => exact ⟨k + 1, by omega, by go_num, by rw [HT.out]; exact HO4.out, HXP4.out, HB4w.out⟩
        case measure => simp [intOf]; omega
      · cases ok
        · 
          have HT : Hid ((l.take (k + 1)).filter (keepV plo phi e pred) = (l.take k).filter (keepV plo phi e pred)) := by
            show _ = _
            rw [take_get HX.out, List.filter_append, List.filter_cons_of_neg (by rw [HKV.out]; simp)]
            simp
          go_wp2_with fail
          go_roundw
          case rel => exact ⟨k + 1, by omega, by go_num, by rw [HT.out]; exact HO4.out, HXP4.out, HB4w.out⟩
          case measure => simp [intOf]; omega
        · by_cases hk3 : (hg.kind == 3) = true
          · by_cases hn1 : (hg.n == 1) = true
            · have HT : Hid ((l.take k).filter (keepV plo phi e pred) ++ [⟨xid, xvals, xlo, xhi, xrlo, xrhi⟩] = (l.take (k + 1)).filter (keepV plo phi e pred)) := by
                show _ = _
                rw [take_get HX.out, List.filter_append, List.filter_cons_of_pos (by rw [HKV.out]; unfold isTrueG; rw [hk3, hn1]; rfl)]
                rfl
              have hz0 : w.heap.size + 1 ≤ w4.heap.size := by omega
              have HIS : Hid (Els (verE.avoid D) w4 (fun k' => some k' = (Value.slice oa ((l.take k).filter (keepV plo phi e pred)).length oc).ownBlock) [⟨xid, xvals, xlo, xhi, xrlo, xrhi⟩] [.int .i64 xid, .slice a1 nv c1v, .int .i64 xlo, .int .i64 xhi, .int .i64 xrlo, .int .i64 xrhi]) :=
                Els.one ⟨_, rfl, HVC.out.clearOr HB4w.out (fun k' hk' => Nat.le_of_succ_le (HO4.out.lt k' hk').1)⟩
              go_wp2_with (at_builtin; refine wpList_push rfl _ _ 29 rfl (verE.avoid D) Try.underlying29 (w.heap.size + 1) (.slice oa ((l.take k).filter (keepV plo phi e pred)).length oc) ((l.take k).filter (keepV plo phi e pred)) rfl HO4.out [⟨xid, xvals, xlo, xhi, xrlo, xrhi⟩] #[.int .i64 xid, .slice a1 nv c1v, .int .i64 xlo, .int .i64 xhi, .int .i64 xrlo, .int .i64 xrhi] HIS.out 1 1 rfl rfl (by decide) (by unfold maxLen; omega) (by show _ * 64 ≤ _; omega) hz0 ?_; intro g cap w5 hP hPa)
              go_roundw
              case rel => exact ⟨k + 1, by omega, by go_num, by rw [← HT.out]; exact hP.own' (by simp), hP.block (fun h => by have := (HO4.out.lt _ h.symm).1; omega) HXP4.out, HB4w.out.trans (hP.below.mono (by omega))⟩
              case measure => simp [intOf]; omega
            · replace hn1 : (hg.n == 1) = false := by simpa using hn1
              have HT : Hid ((l.take (k + 1)).filter (keepV plo phi e pred) = (l.take k).filter (keepV plo phi e pred)) := by
                show _ = _
                rw [take_get HX.out, List.filter_append, List.filter_cons_of_neg (by rw [HKV.out]; unfold isTrueG; rw [hk3, hn1]; simp)]
                simp
              go_wp2_with fail
              go_roundw
              case rel => exact ⟨k + 1, by omega, by go_num, by rw [HT.out]; exact HO4.out, HXP4.out, HB4w.out⟩
              case measure => simp [intOf]; omega
          · replace hk3 : (hg.kind == 3) = false := by simpa using hk3
            have HT : Hid ((l.take (k + 1)).filter (keepV plo phi e pred) = (l.take k).filter (keepV plo phi e pred)) := by
              show _ = _
              rw [take_get HX.out, List.filter_append, List.filter_cons_of_neg (by rw [HKV.out]; unfold isTrueG; rw [hk3]; simp)]
              simp
            go_wp2_with fail
            go_roundw
            case rel => exact ⟨k + 1, by omega, by go_num, by rw [HT.out]; exact HO4.out, HXP4.out, HB4w.out⟩
            case measure => simp [intOf]; omega
    · have HF : Hid ((l.take k).filter (keepV plo phi e pred) = l.filter (keepV plo phi e pred)) := by show _ = _; rw [List.take_of_length_le (by rw [← HN.out]; omega)]
      rw [HF.out] at hO ⊢
      have hfl : (l.filter (keepV plo phi e pred)).length ≤ 20 := Nat.le_trans (List.length_filter_le _ _) (by rw [← HN.out]; exact hl)
      have hwz : w.heap.size + 1 ≤ wo.heap.size := World.block_lt_of_cell? wo _ (box_two hxp).1
      have HO := Lib.hid hO
      have HB := Lib.hid hB
      clear hO hB hxp
      go_wp2_with fail
      refine (stable_any _ oa oc (w.heap.size + 1) wo HO.out hfl hwz).mono ?_
      rintro _ w5 ⟨rfl, hO5, hB5⟩
      have HO5 := Lib.hid hO5
      have HB5 := Lib.hid (HB.out.trans (hB5.mono (Nat.le_succ _)))
      clear hO5 hB5 HO
      go_wp2_with fail
      go_ret
      refine ⟨_, rfl, ?_, HB5.out⟩
      have h := HO5.out.mono (Nat.le_succ w.heap.size)
      have hs := sortV_length (l.filter (keepV plo phi e pred))
      rw [show affV plo phi e pred l = sortV (l.filter (keepV plo phi e pred)) from rfl]
      exact h
end Go.Proofs.Ytminnkihcohflaa

namespace Go.Proofs.Ytminnkihcohflaa
open Go.RowKit Go.Lib Go.Maps

theorem argBad_dup {l : List Ver} (h : ¬ (l.map Ver.id).Nodup) (at' first : Int) : argBad l at' first = true := by unfold argBad; simp [h]
theorem argBad_of {l : List Ver} (h : (l.map Ver.id).Nodup) (at' first : Int) : argBad l at' first = (decide (at' < 0) || decide (1099511627776 ≤ at') || decide (first < 1) || decide (1099511627776 < first) || (l.any fun v => decide (first ≤ v.id))) := by unfold argBad; simp [h]
theorem kept_from {B : Nat} {w w' : World} (h : Below B w w') : Kept (fun k => B ≤ k) w w' := ⟨h.size, fun k _ hn => h.block k (by omega)⟩
theorem plainBool_inv {v : Value} {y : DataW Unit × List MemPlace} (h : plainElem Try.prog 4 v = some y) : ∃ c, v = .bool c := by
  cases v <;> simp [plainElem, Try.underlying4] at h
  exact ⟨_, rfl⟩
section
variable {ops : Array Oper} {rest : List Oper} {o : Oper} {a : Act} {Q : Exit → Act → World → Prop}
/-- The step of a range over such a set. -/
theorem wpList_nextIB (w : World) (hg : o.guard = none) (it : Operand) (hop : o.op = Op.next it false) (b r n : Nat) (D : DataW Unit) (left : Lit → Bool) (cnt : Nat) (hit : a.eval it = .pointer (some ⟨r, 0, none⟩)) (h : w.ranges Try.prog 3 (plainElem Try.prog 4) b r n D left cnt)
    (hT : ∀ x, (Lit.int .i64 x).wf = true → has D (.int .i64 x) = true → ∀ zd, D.atKey (.int .i64 x) zd = .lit (.bool true))
    (hDone : (∀ kl, left kl = false) → wpList Try.prog ops Q rest (a.put o.dst (.tuple #[.bool false])) w)
    (hMore : ∀ (x : Int) (w' : World) (cnt' : Nat), (Lit.int .i64 x).wf = true → has D (.int .i64 x) = true → w'.ranges Try.prog 3 (plainElem Try.prog 4) b r n D (fun z => left z && !z.sameKey (.int .i64 x)) cnt' → cnt' < cnt →
      w.grownBy w' (some r) → w'.heap.size = w.heap.size → (Instr.entry (.pointer (some ⟨r, 0, none⟩))).run Try.prog w' = .ok (.tuple #[.int .i64 x, .bool true]) w' → wpList Try.prog ops Q rest (a.put o.dst (.tuple #[.bool true, .int .i64 x, .bool true])) w') :
    wpList Try.prog ops Q (o :: rest) a w :=
  wpList_next_ranges w hg it hop 3 int_law (plainElem Try.prog 4) (Value.int .i64) Value.bool (fun key kl hkey => by obtain ⟨x, rfl, _⟩ := keyOf_int_inv Try.underlying3 hkey; exact ⟨x, rfl⟩) (fun v y hv => plainBool_inv hv)
    b r n D left cnt hit h (fun _ hl => hDone hl) (fun x c kl y w' cnt' hkey hlk hv hat hrg hlt hgr hsz hen => by
      obtain ⟨x', ex, rfl, hwx⟩ := keyOf_int_inv Try.underlying3 hkey
      cases ex
      have hc : c = true := by
        have h1 := hT x hwx (has_true_of_atKey hat) .nil
        rw [hat .nil] at h1
        simp [plainElem, Try.underlying4] at hv
        rw [← hv] at h1
        simpa using h1
      subst hc
      exact hMore x w' cnt' hwx (has_true_of_atKey hat) hrg hlt hgr hsz hen)
end
set_option maxHeartbeats 4000000 in
set_option maxRecDepth 100000 in
theorem check_any (v vc va : Value) (l : List Ver) (cl : List Int) (ad : List Tup) (at' first : Int) (w : World) (hv : Sl verE w free v l) (hcl : Sl intE w free vc cl) (had : Tups w va ad) (hl : l.length ≤ 1000) (hcn : cl.length ≤ 1000) (hid : ∀ x ∈ l, In64 x.id) (hci : ∀ x ∈ cl, In64 x) :
    Calls Try.prog 61 #[v, .agg #[vc, va], .int .i64 at', .int .i64 first] w fun e w' => ∃ r : Int, Hid (r = applyE l cl ad at' first) ∧ (r = 0 → ∃ b n, e = .returned (.tuple #[.map (some b), .int .i64 0]) ∧ OwnIB w' b n (clS l cl) ∧ w.heap.size ≤ b) ∧ (r ≠ 0 → e = .returned (.tuple #[.map none, .int .i64 r])) ∧ Below w.heap.size w w' := by
  obtain ⟨a, c, rfl⟩ := hv.shape
  obtain ⟨a2, c2, rfl⟩ := hcl.shape
  obtain ⟨a3, c3, rfl⟩ := had.shape
  have HV := Lib.hid hv
  have HCL := Lib.hid hcl
  have HAD := Lib.hid had
  have HI := Lib.hid hid
  have HCI := Lib.hid hci
  obtain ⟨n, hn⟩ : ∃ n, n = l.length := ⟨_, rfl⟩
  obtain ⟨m, hm⟩ : ∃ m, m = cl.length := ⟨_, rfl⟩
  obtain ⟨q, hq⟩ : ∃ q, q = ad.length := ⟨_, rfl⟩
  have HN := Lib.hid hn
  have HM := Lib.hid hm
  rw [← hn] at hl HV ⊢
  rw [← hm] at hcn HCL ⊢
  rw [← hq] at HAD ⊢
  have hmm := @run_makeMap Try.prog
  have HIX : ∀ W, Below w.heap.size w W → Hid (Calls Try.prog 93 #[.slice a n c] W fun e w' => ((l.map Ver.id).Nodup → ∃ b, e = .returned (.tuple #[.map (some b), .bool true]) ∧ OwnII w' b l.length (posOf l) ∧ W.heap.size ≤ b) ∧ (¬ (l.map Ver.id).Nodup → e = .returned (.tuple #[.map none, .bool false])) ∧ Below W.heap.size W w') := fun W hW => index_any _ l W (HV.out.below hW) (by rw [← HN.out]; exact hl) HI.out
  have HCT : ∀ W, Below w.heap.size w W → ∀ g, W.cell? ⟨g, 0, none⟩ = some (.int .i64 first) → Hid (Calls Try.prog 94 #[.slice a n c, .func (.func 95) #[] #[.pointer (some ⟨g, 0, none⟩)]] W fun e w' => e = .returned (.bool (l.any fun x => decide (first ≤ x.id))) ∧ Below W.heap.size W w') := fun W hW g hg => containsVer_any _ l first g W (HV.out.below hW) hg
  have HCU : ∀ W, Below w.heap.size w W → Hid (Calls Try.prog 97 #[.slice a3 q c3, .func (.func 98) #[] #[]] W fun e w' => e = .returned (.bool (ad.any fun x => !pdays x.lo x.hi)) ∧ Below W.heap.size W w') := fun W hW => containsTup_any _ ad W (HAD.out.below hW)
  have HARG : Hid (argBad l at' first = true → applyE l cl ad at' first = 1) := fun h => by unfold applyE; rw [if_pos h]
  clear hv hcl had hid hci hn hm hq
  go_enter Try.func61, Try.ntmps61
  go_wp2_with fail
  refine (HIX _ (below_alloc_two w _ _)).out.mono ?_
  rintro e1 w1 ⟨h1, h2, hb1⟩
  have hB1 : Below w.heap.size w w1 := below_two' hb1
  have hdb : w1.heap[w.heap.size]? = some (.cells #[.slice a2 m c2, .slice a3 q c3] 38 (0, 0)) := (hb1.block w.heap.size (by simp; omega)).trans ((Below.heap_alloc _ _ _ (by simp)).trans (World.alloc_heap_new w _))
  have hfb : w1.heap[w.heap.size + 1]? = some (.cells #[.int .i64 first] 3 (0, 0)) := (hb1.block (w.heap.size + 1) (by simp)).trans (by simpa using World.alloc_heap_new (w.alloc (.cells #[.slice a2 m c2, .slice a3 q c3] 38)) (.cells #[.int .i64 first] 3))
  have hf0 : w1.cell? ⟨w.heap.size + 1, 0, none⟩ = some (.int .i64 first) := cell_of hfb rfl
  by_cases hnd : (l.map Ver.id).Nodup
  · obtain ⟨b, rfl, hO1, hbb⟩ := h1 hnd
    have HND := Lib.hid hnd
    have HO1 := Lib.hid hO1
    have HB1 := Lib.hid hB1
    have HD1 := Lib.hid hdb
    have hbl := hO1.lt
    clear h1 h2 hb1 hO1 hB1 hdb hfb hnd
    by_cases c1 : at' < 0
    · go_wp2_with fail
      refine bodyPost_ret (v := .tuple #[.map none, .int .i64 1]) (by simp [results, Try.results61, go_sem]) rfl ⟨1, (HARG.out (by rw [argBad_of HND.out]; simp [c1])).symm, fun h => absurd h (by decide), fun _ => rfl, HB1.out⟩
    by_cases c2 : 1099511627776 ≤ at'
    · go_wp2_with fail
      refine bodyPost_ret (v := .tuple #[.map none, .int .i64 1]) (by simp [results, Try.results61, go_sem]) rfl ⟨1, (HARG.out (by rw [argBad_of HND.out]; simp [c2])).symm, fun h => absurd h (by decide), fun _ => rfl, HB1.out⟩
    by_cases c3 : first < 1
    · go_wp2_with fail
      refine bodyPost_ret (v := .tuple #[.map none, .int .i64 1]) (by simp [results, Try.results61, go_sem]) rfl ⟨1, (HARG.out (by rw [argBad_of HND.out]; simp [c3])).symm, fun h => absurd h (by decide), fun _ => rfl, HB1.out⟩
    by_cases c4 : 1099511627776 < first
    · go_wp2_with fail
      refine bodyPost_ret (v := .tuple #[.map none, .int .i64 1]) (by simp [results, Try.results61, go_sem]) rfl ⟨1, (HARG.out (by rw [argBad_of HND.out]; simp [c4])).symm, fun h => absurd h (by decide), fun _ => rfl, HB1.out⟩
    obtain ⟨big, hbig⟩ : ∃ big, big = (l.any fun x => decide (first ≤ x.id)) := ⟨_, rfl⟩
    have HBIG := Lib.hid hbig
    have HCT1 := HCT w1 HB1.out _ hf0
    rw [← hbig] at HCT1
    have HBAD : Hid (argBad l at' first = big) := by show _ = _; rw [argBad_of HND.out, ← hbig]; simp [c1, c2, c3, c4]
    clear hbig HCT
    go_wp2_with fail
    refine HCT1.out.mono ?_
    rintro _ w2 ⟨rfl, hb2⟩
    have HB2 := Lib.hid (below_keep HB1.out hb2)
    have HO2 := Lib.hid (HO1.out.below hb2)
    have HD2 := Lib.hid (box_kept HD1.out hb2)
    have hbl2 : b < w2.heap.size := Nat.lt_of_lt_of_le hbl hb2.size
    clear hb2 HCT1 HO1 HD1
    cases big
    · have HAP : Hid (okC l cl = false → applyE l cl ad at' first = 11) := fun h => by unfold applyE; rw [HBAD.out, h]; rfl
      have HAQ : Hid (okC l cl = true → applyE l cl ad at' first = if lateC l cl at' then 10 else if ad.any (fun t => !pdays t.lo t.hi) then 10 else 0) := fun h => by unfold applyE; rw [HBAD.out, h]; rfl
      have hdb := ((below_alloc w2 (.map #[] 0)).block w.heap.size (Array.getElem?_eq_some_iff.1 HD2.out).1).trans HD2.out
      have d0 := cell_of (k := 0) hdb rfl
      have HM0 := Lib.hid (OwnIB.made w2)
      have hz2 := HB2.out.size
      clear hdb
      go_wp2_with fail
      go_loopw [50] (fun i wr => ∃ k : Nat, k ≤ m ∧ i = .int .i64 k ∧ OwnIB wr w2.heap.size k (clS l (cl.take k)) ∧ Hid (okC l (cl.take k) = true) ∧ Below w2.heap.size w2 wr) (fun i _ => m - (intOf i).toNat)
      case atStart => exact ⟨0, Nat.zero_le _, rfl, HM0.out, Lib.hid (okC_nil l), below_alloc _ _⟩
      case round =>
        obtain ⟨k, hk, rfl, hO, HK, hB⟩ := hrel
        obtain ⟨wo, rfl⟩ : ∃ wo : World, wo = wr := ⟨_, rfl⟩
        have hBw := HB2.out.trans (hB.mono hz2)
        by_cases hlt : k < m
        · obtain ⟨x, hx⟩ := lget_some cl k (by rw [← HM.out]; exact hlt)
          obtain ⟨bx, ox, rfl, p0⟩ := int_at (HCL.out.below hBw) hx
          have hxw := wf64 (HCI.out x (List.mem_of_getElem? hx))
          have hlook := (HO2.out.kept (kept_from hB) (by omega)).look hxw
          have HX := Lib.hid hx
          have HOo := Lib.hid hO
          have HBo := Lib.hid hB
          have HBw := Lib.hid hBw
          have HT : Hid (okC l (cl.take (k + 1)) = (curId l x && !(cl.take k).contains x)) := by show _ = _; rw [take_get HX.out, okC_snoc, HK.out, Bool.true_and]
          clear hx hO hB hBw hxw
          cases hp : posOf l x with
          | none =>
            have HF : Hid (okC l cl = false) := okC_take l cl (k + 1) (by rw [HT.out, curId_none hp]; rfl)
            rw [hp] at hlook
            simp only [Option.getD_none, Option.isSome_none] at hlook
            clear hp
            go_wp2_with fail
            refine bodyPost_ret (v := .tuple #[.map none, .int .i64 11]) (by simp [results, Try.results61, go_sem]) rfl ⟨11, (HAP.out (HF.out)).symm, fun h => absurd h (by decide), fun _ => rfl, HBw.out⟩
          | some c =>
            obtain ⟨i, y, rfl, hy, hyid⟩ := posOf_some hp
            have HP : Hid (posOf l x = some (i : Int)) := hp
            rw [hp] at hlook
            simp only [Option.getD_some, Option.isSome_some] at hlook
            have hil : i < n := by rw [HN.out]; exact (List.getElem?_eq_some_iff.1 hy).1
            have hiw : (Lit.int .i64 (i : Int)).wf = true := wf64 (by constructor <;> omega)
            have hlook2 := HOo.out.look hiw
            obtain ⟨bv, ov, av, cv, rfl, hvv, y0, y1, y2, y3, y4, y5⟩ := ver_at (HV.out.below HBw.out) hy
            have HCON : Hid (clS l (cl.take k) i = (cl.take k).contains x) := by show _ = _; rw [clS_at HND.out _ hy, hyid]
            have HCU2 : Hid (curId l x = (y.rhi == 1099511627776)) := by show _ = _; rw [← hyid, curId_at HND.out hy]
            have HIW := Lib.hid hiw
            have HKN : Hid (k < maxLen) := by show _ < _; have : maxLen = 9223372036854775807 := rfl; omega
            clear hp hy hvv hiw hyid
            obtain ⟨yid, yvals, ylo, yhi, yrlo, yrhi⟩ := y
            dsimp only at y0 y1 y2 y3 y4 y5 HCU2
            cases hs : clS l (cl.take k) i
            · rw [hs] at hlook2 HCON
              clear hs
              go_wp2_with fail
              refine (current_any ⟨yid, yvals, ylo, yhi, yrlo, yrhi⟩ _ _).mono ?_
              rintro _ w3 ⟨rfl, hb3⟩
              have HO3 := Lib.hid (HOo.out.below hb3)
              have HB3 := Lib.hid (HBo.out.trans (hb3.mono HBo.out.size))
              have HBw3 := Lib.hid (below_keep HBw.out hb3)
              clear hb3
              dsimp only
              obtain ⟨cur, hcur⟩ : ∃ cur, cur = (yrhi == 1099511627776) := ⟨_, rfl⟩
              rw [← hcur] at HCU2 ⊢
              clear hcur
              cases cur
              · have HF : Hid (okC l cl = false) := okC_take l cl (k + 1) (by rw [HT.out, HCU2.out]; rfl)
                go_wp2_with fail
                refine bodyPost_ret (v := .tuple #[.map none, .int .i64 11]) (by simp [results, Try.results61, go_sem]) rfl ⟨11, (HAP.out (HF.out)).symm, fun h => absurd h (by decide), fun _ => rfl, HBw3.out⟩
              · have HT2 : Hid (okC l (cl.take (k + 1)) = true) := by show _ = _; rw [HT.out, HCU2.out, ← HCON.out]; rfl
                go_wp2_with (at_mapUpdate; refine wpList_putIB _ rfl _ _ _ rfl w2.heap.size k (clS l (cl.take k)) rfl HO3.out HKN.out i rfl rfl HIW.out ?_; intro w4 hO4 hg4)
                go_roundw
                case rel =>
                  refine ⟨k + 1, by omega, by go_num, ?_, HT2, ?_⟩
                  · rw [take_get HX.out, clS_snoc HP.out]
                    exact hO4
                  · exact HB3.out.grown hg4 HB3.out.size (fun j hj => by cases hj; exact Nat.le_refl _)
                case measure => simp [intOf]; omega
            · have HF : Hid (okC l cl = false) := okC_take l cl (k + 1) (by rw [HT.out, ← HCON.out, hs]; simp)
              rw [hs] at hlook2
              clear hs
              go_wp2_with fail
              refine bodyPost_ret (v := .tuple #[.map none, .int .i64 11]) (by simp [results, Try.results61, go_sem]) rfl ⟨11, (HAP.out (HF.out)).symm, fun h => absurd h (by decide), fun _ => rfl, HBw.out⟩
        · have hF : cl.take k = cl := by rw [List.take_of_length_le (by rw [← HM.out]; omega)]
          rw [hF] at hO HK
          have HAQ1 := Lib.hid (HAQ.out HK.out)
          obtain ⟨D, hD1, hD2, hD3⟩ := hO
          have HD3 := Lib.hid hD3
          have HDH := Lib.hid hD2
          have HOD := Lib.hid hD1
          have HBw := Lib.hid hBw
          have hdo := (hB.block w.heap.size (Nat.lt_of_lt_of_le (Array.getElem?_eq_some_iff.1 HD2.out).1 (Nat.le_refl _))).trans HD2.out
          have HDO := Lib.hid hdo
          have hbC : w2.heap.size < wo.heap.size := hD1.lt
          clear hD1 hD2 hD3 hB hBw hdo HAQ HAP
          go_wp2_with (at_range; refine wpList_range_own _ rfl _ 107 rfl 3 4 int_law Try.underlying107 (plainElem Try.prog 4) w2.heap.size k D rfl HOD.out ?_; intro w5 hrg5 hg5 hs5)
          go_frame
          have HB5 : Hid (Below wo.heap.size wo w5) := (Below.refl _ _).grown hg5 (Nat.le_refl _) (fun j hj => by cases hj)
          have HRG := Lib.hid hrg5
          clear hrg5 hg5
          go_loopw [17] (fun _ wr => ∃ left cnt, wr.ranges Try.prog 3 (plainElem Try.prog 4) w2.heap.size wo.heap.size k D left cnt ∧ Hid (∀ (i : Nat) (x : Ver), l[i]? = some x → clS l cl i = true → left (.int .i64 i) = false → x.rlo ≤ at') ∧ Below wo.heap.size wo wr) (fun _ wr => wr.rangeLeft w2.heap.size wo.heap.size)
          case atStart =>
            refine ⟨_, _, HRG.out, Lib.hid (fun i x hx hc hf => ?_), HB5.out⟩
            have hil : i < n := by rw [HN.out]; exact (List.getElem?_eq_some_iff.1 hx).1
            rw [HDH.out _ (wf64 (by constructor <;> omega)), hc] at hf
            cases hf
          case round =>
            obtain ⟨left, cnt, hrg, HL, hB6⟩ := hrel
            obtain ⟨w6, rfl⟩ : ∃ w6 : World, w6 = wr := ⟨_, rfl⟩
            have HRG6 := Lib.hid hrg
            have HB6 := Lib.hid hB6
            clear hrg hB6
            go_wp2_with (at_next; refine wpList_nextIB _ rfl _ rfl w2.heap.size wo.heap.size k D left cnt rfl HRG6.out (fun x hx hh => HD3.out x hx (by rw [← HDH.out x hx]; exact hh)) ?_ ?_)
            · intro hl0
              have HLC : Hid (lateC l cl at' = false) := lateC_none HND.out (fun i x hx hc => Int.not_lt.2 (HL.out i x hx hc (hl0 _)))
              have hdb6 := (HB6.out.block w.heap.size (Nat.lt_of_lt_of_le (Array.getElem?_eq_some_iff.1 HDO.out).1 (Nat.le_refl _))).trans HDO.out
              have d1 := cell_of (k := 1) hdb6 rfl
              have HBw6 := Lib.hid (below_keep HBw.out HB6.out)
              have HCU6 := HCU w6 HBw6.out
              obtain ⟨bad, hbad⟩ : ∃ bad, bad = (ad.any fun x => !pdays x.lo x.hi) := ⟨_, rfl⟩
              rw [← hbad] at HCU6
              have HRES : Hid (applyE l cl ad at' first = if bad then 10 else 0) := by show _ = _; rw [HAQ1.out, HLC.out, hbad]; rfl
              have hown6 : OwnIB w6 w2.heap.size k (clS l cl) := ⟨D, HRG6.out.owns, HDH.out, HD3.out⟩
              have HOW := Lib.hid hown6
              clear hl0 hdb6 hbad hown6 HCU
              go_wp2_with fail
              refine HCU6.out.mono ?_
              rintro _ w8 ⟨rfl, hb8⟩
              have HB8 := Lib.hid (below_keep HBw6.out hb8)
              have HOW8 := Lib.hid (HOW.out.below hb8)
              clear hb8
              cases bad
              · go_wp2_with fail
                refine bodyPost_ret (v := .tuple #[.map (some w2.heap.size), .int .i64 0]) (by simp [results, Try.results61, go_sem]) rfl ⟨0, HRES.out.symm, fun _ => ⟨_, _, rfl, HOW8.out, hz2⟩, fun h => absurd rfl h, HB8.out⟩
              · go_wp2_with fail
                refine bodyPost_ret (v := .tuple #[.map none, .int .i64 10]) (by simp [results, Try.results61, go_sem]) rfl ⟨10, HRES.out.symm, fun h => absurd h (by decide), fun _ => rfl, HB8.out⟩
            · intro x w7 cnt7 hxw hhas hrg7 hlt7 hg7 hsz7 hen7
              have hsx : clS l cl x = true := by rw [← HDH.out x hxw]; exact hhas
              obtain ⟨i, y, rfl, hy⟩ := clS_lt hsx
              have hil : i < n := by rw [HN.out]; exact (List.getElem?_eq_some_iff.1 hy).1
              have HB7 : Hid (Below wo.heap.size wo w7) := HB6.out.grown hg7 HB6.out.size (fun j hj => by cases hj; exact Nat.le_refl _)
              have HBw7 := Lib.hid (below_keep HBw.out HB7.out)
              obtain ⟨bv, ov, av, cv, rfl, hvv, y0, y1, y2, y3, y4, y5⟩ := ver_at (HV.out.below HBw7.out) hy
              have HY := Lib.hid hy
              have HSX := Lib.hid hsx
              have HRG7 := Lib.hid hrg7
              have HLT7 := Lib.hid hlt7
              clear hhas hrg7 hg7 hsz7 hxw hy hvv hsx hlt7
              obtain ⟨yid, yvals, ylo, yhi, yrlo, yrhi⟩ := y
              dsimp only at y0 y1 y2 y3 y4 y5
              by_cases hlate : at' < yrlo
              · have HRES : Hid (applyE l cl ad at' first = 10) := by show _ = _; rw [HAQ1.out, lateC_some HND.out HY.out HSX.out hlate]; rfl
                go_wp2_with fail
                refine bodyPost_ret (v := .tuple #[.map none, .int .i64 10]) (by simp [results, Try.results61, go_sem]) rfl ⟨10, HRES.out.symm, fun h => absurd h (by decide), fun _ => rfl, HBw7.out⟩
              · go_wp2_with fail
                go_roundw
                case rel =>
                  refine ⟨_, _, HRG7.out, Lib.hid (fun j z hz hc hf => ?_), HB7.out⟩
                  by_cases hj : j = i
                  · subst hj
                    have := HY.out
                    rw [hz] at this
                    cases this
                    exact Int.not_lt.1 hlate
                  · refine HL.out j z hz hc ?_
                    cases hl1 : left (.int .i64 (j : Int))
                    · rfl
                    · rw [hl1, sameKey_ne (lit_ne (by omega))] at hf
                      cases hf
                case measure =>
                  rw [HRG7.out.left_eq, HRG6.out.left_eq]
                  exact HLT7.out
    · have HX : Hid (applyE l cl ad at' first = 1) := HARG.out HBAD.out
      go_wp2_with fail
      refine bodyPost_ret (v := .tuple #[.map none, .int .i64 1]) (by simp [results, Try.results61, go_sem]) rfl ⟨1, HX.out.symm, fun h => absurd h (by decide), fun _ => rfl, HB2.out⟩
  · have := h2 hnd
    subst this
    have HB1 := Lib.hid hB1
    have HX := Lib.hid (HARG.out (argBad_dup hnd at' first))
    clear h1 h2 hb1 hB1 hdb hfb hnd
    go_wp2_with fail
    refine bodyPost_ret (v := .tuple #[.map none, .int .i64 1]) (by simp [results, Try.results61, go_sem]) rfl ⟨1, HX.out.symm, fun h => absurd h (by decide), fun _ => rfl, HB1.out⟩
end Go.Proofs.Ytminnkihcohflaa

namespace Go.Proofs.Ytminnkihcohflaa
open Go.RowKit Go.Lib Go.Shelf

theorem size_drewA {n : Nat} {w : World} (h : n ≤ w.heap.size) : n ≤ w.drew.heap.size := h
theorem heap_drew {w : World} {g : Nat} {o : Option Obj} (h : w.heap[g]? = o) : w.drew.heap[g]? = o := h
set_option maxHeartbeats 2000000 in
set_option maxRecDepth 100000 in
theorem raffected_any {D : Nat → Prop} (v ve : Value) (l : List Ver) (plo phi : Int) (e : List GExp) (pred : Int) (w : World) (hv : Sl (verE.avoid D) w free v l) (he : Sl expE w free ve e) (hl : l.length ≤ 20) (hel : e.length ≤ 1000) (hc : ∀ x ∈ e, In64 x.c.n) (hvn : ∀ x ∈ l, ∀ g ∈ x.vals, In64 g.n) :
    Calls Try.prog 87 #[v, .agg #[.int .i64 plo, .int .i64 phi], ve, .int .i64 pred] w (RetOwn (verE.avoid D) w (affV plo phi e pred l)) := by
  obtain ⟨a, c, rfl⟩ := hv.shape
  obtain ⟨a2, c2, rfl⟩ := he.shape
  have HV := Lib.hid hv
  have HE := Lib.hid he
  have HC := Lib.hid hc
  have HVN := Lib.hid hvn
  obtain ⟨n, hn⟩ : ∃ n, n = l.length := ⟨_, rfl⟩
  obtain ⟨m, hm⟩ : ∃ m, m = e.length := ⟨_, rfl⟩
  have HN := Lib.hid hn
  have HM := Lib.hid hm
  have h63 := hv.1
  rw [← hn] at h63 HV hl ⊢
  rw [← hm] at HE hel ⊢
  clear hv he hc hvn hn hm
  go_enter Try.func87, Try.ntmps87
  go_wp2_with fail
  go_loopw [17, 9] (fun i o wr => ∃ k : Nat, k ≤ n ∧ i = .int .i64 k ∧ Own (verE.avoid D) wr (w.heap.size + 1) o (affV plo phi e pred (l.take k)) ∧ wr.heap[w.heap.size]? = some (.cells #[.int .i64 plo, .int .i64 phi] 31 (0, 0)) ∧ Below w.heap.size w wr) (fun i _ _ => n - (intOf i).toNat)
  case atStart => exact ⟨0, Nat.zero_le _, rfl, Own.nil _ _ _, World.alloc_heap_new w _, below_alloc _ _⟩
  case round =>
    obtain ⟨k, hk, rfl, hO, hxp, hB⟩ := hrel
    obtain ⟨wo, rfl⟩ : ∃ wo : World, wo = wr := ⟨_, rfl⟩
    obtain ⟨oa, oc, rfl⟩ := hO.shape
    have hzo := hB.size
    by_cases hlt : k < n
    · obtain ⟨x, hx⟩ := lget_some l k (by rw [← HN.out]; exact hlt)
      obtain ⟨b, o, a1, c1v, rfl, hvv, p0, p1, p2, p3, p4, p5⟩ := vers_at (HV.out.below hB) hx
      have hxn := HVN.out x (List.mem_of_getElem? hx)
      have HX := Lib.hid hx
      have HVV := Lib.hid hvv
      have HXN := Lib.hid hxn
      have HVC : Hid (Sl valE w (fun k => free k ∨ D k) (.slice a1 x.vals.length c1v) x.vals) := by
        obtain ⟨b', o', a1', c1v', e', hv', q0, q1, _⟩ := vers_at HV.out (HX.out)
        cases e'
        have h1 := cell_keep hB q1
        rw [p1] at h1
        cases h1
        exact hv'
      have HO := Lib.hid hO
      have HB := Lib.hid hB
      obtain ⟨xid, xvals, xlo, xhi, xrlo, xrhi⟩ := x
      dsimp only at p0 p1 p2 p3 p4 p5 HVV HXN HVC
      obtain ⟨nv, hnv⟩ : ∃ nv, nv = xvals.length := ⟨_, rfl⟩
      rw [← hnv] at p1 HVV HVC
      have HNV := Lib.hid hnv
      have hflen : (affV plo phi e pred (l.take k)).length ≤ 20 := by
        unfold affV
        rw [sortV_length]
        refine Nat.le_trans (List.length_filter_le _ _) ?_
        rw [List.length_take]; omega
      obtain ⟨s, hs⟩ : ∃ s, s = affV plo phi e pred (l.take k) := ⟨_, rfl⟩
      rw [← hs] at hO hflen ⊢
      have HSS := Lib.hid hs
      clear HO
      have HO := Lib.hid hO
      have HXP := Lib.hid hxp
      obtain ⟨y0, y1, _, _⟩ := box_two hxp
      have hwz : w.heap.size < wo.heap.size := by
        have := World.block_lt_of_cell? wo _ y0
        exact this
      clear hx hvv hxn hO hB hxp hnv hs
      go_wp2_with fail
      refine (risect_any xlo xhi plo phi _).mono ?_
      rintro _ w2 ⟨rfl, hb2⟩
      have hbv := box_kept (World.alloc_heap_new wo (.cells #[.int .i64 xid, .slice a1 nv c1v, .int .i64 xlo, .int .i64 xhi, .int .i64 xrlo, .int .i64 xrhi] 59)) hb2
      have hB2 : Below wo.heap.size wo w2 := below_alloc2' hb2
      have hz2 : wo.heap.size + 1 ≤ w2.heap.size := by simpa using hb2.size
      have HBV := Lib.hid hbv
      have HB2 := Lib.hid hB2
      obtain ⟨ok, hok⟩ : ∃ ok, ok = isOk xlo xhi plo phi := ⟨_, rfl⟩
      rw [← hok]
      have HOK := Lib.hid hok
      obtain ⟨qlo, hqlo⟩ : ∃ q, q = isLo xlo xhi plo phi := ⟨_, rfl⟩
      obtain ⟨qhi, hqhi⟩ : ∃ q, q = isHi xlo xhi plo phi := ⟨_, rfl⟩
      rw [← hqlo, ← hqhi]
      have hbva := (below_alloc w2 (.cells #[.int .i64 qlo, .int .i64 qhi] 31)).block wo.heap.size (by omega)
      rw [hbv] at hbva
      have x0 : (w2.alloc (.cells #[.int .i64 qlo, .int .i64 qhi] 31)).cell? ⟨wo.heap.size, 0, none⟩ = some (.int .i64 xid) := cell_of hbva rfl
      have x1 : (w2.alloc (.cells #[.int .i64 qlo, .int .i64 qhi] 31)).cell? ⟨wo.heap.size, 1, none⟩ = some (.slice a1 nv c1v) := cell_of hbva rfl
      have x2 : (w2.alloc (.cells #[.int .i64 qlo, .int .i64 qhi] 31)).cell? ⟨wo.heap.size, 2, none⟩ = some (.int .i64 xlo) := cell_of hbva rfl
      have x3 : (w2.alloc (.cells #[.int .i64 qlo, .int .i64 qhi] 31)).cell? ⟨wo.heap.size, 3, none⟩ = some (.int .i64 xhi) := cell_of hbva rfl
      have x4 : (w2.alloc (.cells #[.int .i64 qlo, .int .i64 qhi] 31)).cell? ⟨wo.heap.size, 4, none⟩ = some (.int .i64 xrlo) := cell_of hbva rfl
      have x5 : (w2.alloc (.cells #[.int .i64 qlo, .int .i64 qhi] 31)).cell? ⟨wo.heap.size, 5, none⟩ = some (.int .i64 xrhi) := cell_of hbva rfl
      clear hbv hbva hB2 hb2 p0 p1 p2 p3 p4 p5 y0 y1 hok hqlo hqhi
      obtain ⟨nc, hnc⟩ : ∃ nc, nc = (xrhi != 1099511627776) := ⟨_, rfl⟩
      have HKV : Hid (keepV plo phi e pred ⟨xid, xvals, xlo, xhi, xrlo, xrhi⟩ = (!nc && ok && isTrueG (evalG e pred xvals))) := by
        show _ = _
        rw [hnc, HOK.out]
        unfold keepV bne
        simp
      have hB2a : Below wo.heap.size wo (w2.alloc (.cells #[.int .i64 qlo, .int .i64 qhi] 31)) := below_alloc_keep HB2.out
      have HO2 := Lib.hid (HO.out.below hB2a)
      have HXP2 := Lib.hid (box_kept HXP.out hB2a)
      have HB2w := Lib.hid (HB.out.trans (hB2a.mono hzo))
      have HBV2 := Lib.hid (box_kept HBV.out (below_alloc w2 (.cells #[.int .i64 qlo, .int .i64 qhi] 31)))
      clear hB2a
      cases nc
      · have hnc' : (xrhi != 1099511627776) = false := hnc.symm
        clear hnc
        cases ok
        · 
          have HT : Hid (affV plo phi e pred (l.take (k + 1)) = s) := by
            show _ = _
            unfold affV
            rw [take_get HX.out, List.filter_append, List.filter_cons_of_neg (by rw [HKV.out]; simp)]
            rw [HSS.out]
            simp [affV]
          go_wp2_with fail
          go_roundw
          case rel => exact ⟨k + 1, by omega, by go_num, by rw [HT.out]; exact HO2.out, HXP2.out, HB2w.out⟩
          case measure => simp [intOf]; omega
        · have HEV : Hid (Calls Try.prog 118 #[.slice a2 m c2, .int .i64 pred, .slice a1 nv c1v] (w2.alloc (.cells #[.int .i64 qlo, .int .i64 qhi] 31)) fun e' w' => e' = .returned (aggG (evalG e pred xvals)) ∧ Below (w2.alloc (.cells #[.int .i64 qlo, .int .i64 qhi] 31)).heap.size (w2.alloc (.cells #[.int .i64 qlo, .int .i64 qhi] 31)) w') :=
            reEval_any _ _ e pred xvals (w2.alloc (.cells #[.int .i64 qlo, .int .i64 qhi] 31)) ((HE.out.below (HB.out.trans (HB2.out.mono hzo))).below (below_alloc _ _)) ((HVV.out.free.below HB2.out).below (below_alloc _ _)) (by rw [← HM.out]; omega) HC.out HXN.out
          obtain ⟨hg, hhg⟩ : ∃ g, g = evalG e pred xvals := ⟨_, rfl⟩
          rw [← hhg] at HEV HKV
          clear hhg
          go_wp2_with fail
          refine HEV.out.mono ?_
          rintro _ w3 ⟨rfl, hb3⟩
          clear HEV
          go_wp2_with fail
          refine (rtrue_any hg _).mono ?_
          rintro _ w4 ⟨rfl, hb4⟩
          have hb34 := hb3.trans (hb4.mono hb3.size)
          have hB4 : Below wo.heap.size wo w4 := below_alloc_keep HB2.out |>.trans (hb34.mono (by simp; omega))
          have HO4 := Lib.hid (HO.out.below hB4)
          have HXP4 := Lib.hid (box_kept HXP.out hB4)
          have HB4w := Lib.hid (HB.out.trans (hB4.mono hzo))
          have hbv4 := box_kept HBV2.out hb34
          have hz4 : w2.heap.size + 1 ≤ w4.heap.size := by simpa using hb34.size
          have HBV4 := Lib.hid hbv4
          clear x0 x1 x2 x3 x4 x5 HO2 HXP2 HB2w HBV2 hb3 hb4 hb34 hB4
          cases htr : isTrueG hg
          · rw [htr] at HKV
            clear htr
            have HT : Hid (affV plo phi e pred (l.take (k + 1)) = s) := by
              show _ = _
              unfold affV
              rw [take_get HX.out, List.filter_append, List.filter_cons_of_neg (by rw [HKV.out]; simp)]
              rw [HSS.out]
              simp [affV]
            go_wp2_with fail
            go_roundw
            case rel => exact ⟨k + 1, by omega, by go_num, by rw [HT.out]; exact HO4.out, HXP4.out, HB4w.out⟩
            case measure => simp [intOf]; omega
          · rw [htr] at HKV
            clear htr
            have x0 : w4.cell? ⟨wo.heap.size, 0, none⟩ = some (.int .i64 xid) := cell_of hbv4 rfl
            have x1 : w4.cell? ⟨wo.heap.size, 1, none⟩ = some (.slice a1 nv c1v) := cell_of hbv4 rfl
            have x2 : w4.cell? ⟨wo.heap.size, 2, none⟩ = some (.int .i64 xlo) := cell_of hbv4 rfl
            have x3 : w4.cell? ⟨wo.heap.size, 3, none⟩ = some (.int .i64 xhi) := cell_of hbv4 rfl
            have x4 : w4.cell? ⟨wo.heap.size, 4, none⟩ = some (.int .i64 xrlo) := cell_of hbv4 rfl
            have x5 : w4.cell? ⟨wo.heap.size, 5, none⟩ = some (.int .i64 xrhi) := cell_of hbv4 rfl
            clear hbv4
            have HT : Hid (insV ⟨xid, xvals, xlo, xhi, xrlo, xrhi⟩ s = affV plo phi e pred (l.take (k + 1))) := by
              show _ = _
              rw [HSS.out]
              unfold affV
              rw [take_get HX.out, List.filter_append, List.filter_cons_of_pos (by rw [HKV.out]; rfl), List.filter_nil, sortV_snoc]
            have hz0 : w.heap.size + 1 ≤ w4.heap.size := by omega
            have HIS : Hid (Els (verE.avoid D) w4 (fun k' => some k' = (Value.slice oa s.length oc).ownBlock) [⟨xid, xvals, xlo, xhi, xrlo, xrhi⟩] [.int .i64 xid, .slice a1 nv c1v, .int .i64 xlo, .int .i64 xhi, .int .i64 xrlo, .int .i64 xrhi]) :=
              Els.one ⟨_, rfl, HVC.out.clearOr HB4w.out (fun k' hk' => Nat.le_of_succ_le (HO4.out.lt k' hk').1)⟩
            go_wp2_with (at_builtin; refine wpList_push rfl _ _ 29 rfl (verE.avoid D) Try.underlying29 (w.heap.size + 1) (.slice oa s.length oc) s rfl HO4.out [⟨xid, xvals, xlo, xhi, xrlo, xrhi⟩] #[.int .i64 xid, .slice a1 nv c1v, .int .i64 xlo, .int .i64 xhi, .int .i64 xrlo, .int .i64 xrhi] HIS.out 1 1 rfl rfl (by decide) (by unfold maxLen; omega) (by show _ * 64 ≤ _; omega) hz0 ?_; intro g cap w5 hP hPa)
            have hO5 := hP.own' (n := s.length + 1) (by simp)
            have hne : ∀ b', b' < wo.heap.size + 1 → (b' = w.heap.size ∨ b' = wo.heap.size) → some b' ≠ (Value.slice oa s.length oc).ownBlock := fun b' h1 h2 h => by
              have h3 := HO.out.lt _ h.symm
              omega
            have hxp5 := hP.block (hne _ (by omega) (.inl rfl)) HXP4.out
            have hbv5 := hP.block (hne _ (by omega) (.inr rfl)) HBV4.out
            have hB5 := HB4w.out.trans (hP.below.mono (by omega : w.heap.size ≤ w.heap.size + 1))
            have hg5 := hO5.lt g rfl
            have hgn : g ≠ w.heap.size ∧ g ≠ wo.heap.size := by
              refine ⟨fun h => hP.ne' (n := 0) (hne _ (by omega) (.inl rfl)) HXP4.out (by rw [← h]; rfl), fun h => hP.ne' (n := 0) (hne _ (by omega) (.inr rfl)) HBV4.out (by rw [← h]; rfl)⟩
            obtain ⟨ns, hns⟩ : ∃ ns, ns = s.length := ⟨_, rfl⟩
            obtain ⟨T, hT⟩ : ∃ T, T = insV ⟨xid, xvals, xlo, xhi, xrlo, xrhi⟩ s := ⟨_, rfl⟩
            have HTT : Hid (T = insV ⟨xid, xvals, xlo, xhi, xrlo, xrhi⟩ s) := hT
            have hB45 := hP.below
            have hw5 : wo.heap.size < w5.heap.size := by have := hB45.size; omega
            have HX5 : Hid (Sl valE w5 (fun m => some m = some g ∨ D m) (.slice a1 nv c1v) xvals) := by
              have h := HVC.out.clearOr (v := .slice (some ⟨g, 0, none⟩) 0 0) hB5 (fun k' hk' => by cases hk'; exact Nat.le_of_succ_le hg5.1)
              exact h.mono (fun k' _ hk' => hk'.imp (fun e => by cases e; rfl) id)
            rw [← hns] at hO5 ⊢
            have HNS := Lib.hid hns
            have HO5 := Lib.hid hO5
            have HXP5 := Lib.hid hxp5
            have HBV5 := Lib.hid hbv5
            have HB5 := Lib.hid hB5
            have hns20 : ns ≤ 20 := by omega
            clear hP hPa hne hxp5 hbv5 hB5 hB45 hO5 hns hT x0 x1 x2 x3 x4 x5 HIS
            go_loopw [14] (fun vj w6 => ∃ (j : Nat) (p q : List Ver) (h : Ver), vj = .int .i64 j ∧ p.length = j ∧ p.length + q.length = ns ∧ Own (verE.avoid D) w6 (w.heap.size + 1) (.slice (some ⟨g, 0, none⟩) (ns + 1) cap) (p ++ h :: q) ∧ Hid (insV ⟨xid, xvals, xlo, xhi, xrlo, xrhi⟩ p ++ q = T) ∧ w6.heap[w.heap.size]? = some (.cells #[.int .i64 plo, .int .i64 phi] 31 (0, 0)) ∧ w6.heap[wo.heap.size]? = some (.cells #[.int .i64 xid, .slice a1 nv c1v, .int .i64 xlo, .int .i64 xhi, .int .i64 xrlo, .int .i64 xrhi] 59 (0, 0)) ∧ Sl valE w6 (fun m => some m = some g ∨ D m) (.slice a1 nv c1v) xvals ∧ Below w.heap.size w w6 ∧ w5.heap.size ≤ w6.heap.size) (fun i _ => (intOf i).toNat)
            case atStart => exact ⟨ns, s, [], ⟨xid, xvals, xlo, xhi, xrlo, xrhi⟩, rfl, HNS.out.symm, by rw [HNS.out]; simp, HO5.out, by show _ = _; rw [List.append_nil, HTT.out], HXP5.out, HBV5.out, HX5.out, HB5.out, Nat.le_refl _⟩
            case round =>
              obtain ⟨j, p, q, h, rfl, hpj, hpq, hO6, HP, hxp6, hbv6, hx6, hB6, hz6⟩ := hrel
              obtain ⟨w6, rfl⟩ : ∃ w6 : World, w6 = wr := ⟨_, rfl⟩
              have hll : (p ++ h :: q).length = ns + 1 := by simp; omega
              have HX6 := Lib.hid hx6
              have HB6 := Lib.hid hB6
              have hg6 := hO6.lt g rfl
              have HXP6 := Lib.hid hxp6
              have HBV6 := Lib.hid hbv6
              cases j with
              | zero =>
                have hp0 : p = [] := List.eq_nil_of_length_eq_zero hpj
                subst hp0
                have x0 : w6.cell? ⟨wo.heap.size, 0, none⟩ = some (.int .i64 xid) := cell_of hbv6 rfl
                have x1 : w6.cell? ⟨wo.heap.size, 1, none⟩ = some (.slice a1 nv c1v) := cell_of hbv6 rfl
                have x2 : w6.cell? ⟨wo.heap.size, 2, none⟩ = some (.int .i64 xlo) := cell_of hbv6 rfl
                have x3 : w6.cell? ⟨wo.heap.size, 3, none⟩ = some (.int .i64 xhi) := cell_of hbv6 rfl
                have x4 : w6.cell? ⟨wo.heap.size, 4, none⟩ = some (.int .i64 xrlo) := cell_of hbv6 rfl
                have x5 : w6.cell? ⟨wo.heap.size, 5, none⟩ = some (.int .i64 xrhi) := cell_of hbv6 rfl
                have fz0 := hO6.frozen hll (0 * 6)
                have fz1 := hO6.frozen hll (0 * 6 + 1)
                have fz2 := hO6.frozen hll (0 * 6 + 2)
                have fz3 := hO6.frozen hll (0 * 6 + 3)
                have fz4 := hO6.frozen hll (0 * 6 + 4)
                have fz5 := hO6.frozen hll (0 * 6 + 5)
                obtain ⟨ah, ch, hSh, h0, h1, h2, h3, h4, h5⟩ := ownver_at hO6 (k := 0) (x := h) rfl
                clear hSh
                simp only [Nat.zero_mul, Nat.zero_add] at fz0 fz1 fz2 fz3 fz4 fz5 h0 h1 h2 h3 h4 h5
                have o1 := ownver_put (x := ⟨xid, xvals, xlo, xhi, xrlo, xrhi⟩) hO6 hll (k := 0) (by omega) HX6.out
                have hls : (([] : List Ver) ++ h :: q).set 0 ⟨xid, xvals, xlo, xhi, xrlo, xrhi⟩ = ([] : List Ver) ++ ⟨xid, xvals, xlo, xhi, xrlo, xrhi⟩ :: q := by
                  rfl
                rw [hls] at o1
                have hb1 := HB6.out.grown o1.2 (by show _ ≤ w6.heap.size; omega) (fun k' hk' => by cases hk'; omega)
                have hxp7 := (o1.2.block w.heap.size (by show _ < w6.heap.size; omega) (fun h => by cases h; exact hgn.1 rfl)).trans hxp6
                have hFIN : ([] : List Ver) ++ ⟨xid, xvals, xlo, xhi, xrlo, xrhi⟩ :: q = affV plo phi e pred (l.take (k + 1)) := by
                  rw [← HT.out, ← HTT.out, ← HP.out]
                  rfl
                rw [hFIN] at o1
                have HO7 := Lib.hid o1.1.drew
                have HXP7 := Lib.hid (heap_drew hxp7)
                have HB7 := Lib.hid hb1.drew
                clear o1 hls hb1 hxp7 hFIN
                simp only [Nat.zero_mul, Nat.zero_add] at HO7 HB7
                have hs0 : (0 : Int) < (ns : Int) + 1 := by omega
                clear hO6 HX6 hx6 hxp6 hbv6 hB6 hll
                go_wp2_with fail
                go_region
                go_wp2_with fail
                go_roundw
                case rel => exact ⟨k + 1, by omega, by go_num, HO7.out, HXP7.out, HB7.out⟩
                case measure => simp [intOf]; omega
              | succ jp =>
                obtain ⟨p', y, rfl⟩ : ∃ p' y, p = p' ++ [y] := by
                  rcases List.eq_nil_or_concat p with h' | ⟨p', y, h'⟩
                  · rw [h'] at hpj; cases hpj
                  · exact ⟨p', y, by simpa using h'⟩
                have hpl : p'.length = jp := by simpa using hpj
                have hgy : (p' ++ [y] ++ h :: q)[jp]? = some y := by rw [List.getElem?_append_left (by simp; omega), List.getElem?_append_right (by omega)]; simp [hpl]
                have hgh : (p' ++ [y] ++ h :: q)[jp + 1]? = some h := by rw [List.getElem?_append_right (by simp; omega)]; simp [hpl]
                have hjn : jp + 1 < ns + 1 := by simp at hpq; omega
                have hz1 : (0 : Int) ≤ (jp : Int) + 1 := by omega
                have hz2 : (jp : Int) + 1 < (ns : Int) + 1 := by omega
                have hz3 : (0 : Int) < (jp : Int) + 1 := by omega
                have hz4 : (jp : Int) < (ns : Int) + 1 := by omega
                have hz5 : (jp : Int) + 1 - 1 = (jp : Int) := by omega
                have hz7 : IntKind.i64.wrap (jp : Int) = (jp : Int) := by rw [IntKind.wrap_i64]; omega
                have x0 : w6.cell? ⟨wo.heap.size, 0, none⟩ = some (.int .i64 xid) := cell_of hbv6 rfl
                have x1 : w6.cell? ⟨wo.heap.size, 1, none⟩ = some (.slice a1 nv c1v) := cell_of hbv6 rfl
                have x2 : w6.cell? ⟨wo.heap.size, 2, none⟩ = some (.int .i64 xlo) := cell_of hbv6 rfl
                have x3 : w6.cell? ⟨wo.heap.size, 3, none⟩ = some (.int .i64 xhi) := cell_of hbv6 rfl
                have x4 : w6.cell? ⟨wo.heap.size, 4, none⟩ = some (.int .i64 xrlo) := cell_of hbv6 rfl
                have x5 : w6.cell? ⟨wo.heap.size, 5, none⟩ = some (.int .i64 xrhi) := cell_of hbv6 rfl
                have fz0 := hO6.frozen hll ((jp + 1) * 6)
                have fz1 := hO6.frozen hll ((jp + 1) * 6 + 1)
                have fz2 := hO6.frozen hll ((jp + 1) * 6 + 2)
                have fz3 := hO6.frozen hll ((jp + 1) * 6 + 3)
                have fz4 := hO6.frozen hll ((jp + 1) * 6 + 4)
                have fz5 := hO6.frozen hll ((jp + 1) * 6 + 5)
                obtain ⟨ah, ch, hSh, h0, h1, h2, h3, h4, h5⟩ := ownver_at hO6 hgh
                clear hSh
                obtain ⟨ay, cy, hSy, y0, y1, y2, y3, y4, y5⟩ := ownver_at hO6 hgy
                by_cases hxy : xid < y.id
                · have o1 := ownver_put (x := y) hO6 hll (k := jp + 1) hjn hSy
                  have hls : (p' ++ [y] ++ h :: q).set (jp + 1) y = p' ++ y :: y :: q := by
                    rw [List.append_assoc, List.set_append_right _ _ (by omega), hpl, show jp + 1 - jp = 1 by omega]
                    rfl
                  rw [hls] at o1
                  have hb1 := HB6.out.grown o1.2 (by show _ ≤ w6.heap.size; omega) (fun k' hk' => by cases hk'; omega)
                  have hxp7 := (o1.2.block w.heap.size (by show _ < w6.heap.size; omega) (fun h => by cases h; exact hgn.1 rfl)).trans hxp6
                  have hbv7 := (o1.2.block wo.heap.size (by show _ < w6.heap.size; omega) (fun h => by cases h; exact hgn.2 rfl)).trans hbv6
                  have hx7 := HX6.out.kept (Kept.of_grown o1.2).or
                  have hz8 := o1.2.size
                  have HO7 := Lib.hid o1.1.drew
                  have HXP7 := Lib.hid (heap_drew hxp7)
                  have HBV7 := Lib.hid (heap_drew hbv7)
                  have HX7 := Lib.hid (hx7.below (Below.refl _ _).drew)
                  have HB7 := Lib.hid hb1.drew
                  have HZ8 := Lib.hid (size_drewA (Nat.le_trans hz6 hz8))
                  have HPN : Hid (insV ⟨xid, xvals, xlo, xhi, xrlo, xrhi⟩ p' ++ y :: q = T) := by
                    show _ = _
                    rw [← HP.out, insV_snoc, if_pos hxy, List.append_assoc]
                    rfl
                  have HPL := Lib.hid hpl
                  have HPQ : Hid (p'.length + (y :: q).length = ns) := by show _ = _; simp at hpq ⊢; omega
                  clear hO6 HX6 hx6 hxp6 hbv6 hB6 hll o1 hls hb1 hxp7 hbv7 hx7 hz8 hSy hgy hgh hpl hpj hpq
                  go_wp2_with fail
                  go_region
                  go_wp2_with fail
                  go_roundw
                  case rel => exact ⟨jp, p', y :: q, y, by go_num, HPL.out, HPQ.out, HO7.out, HPN, HXP7.out, HBV7.out, HX7.out, HB7.out, HZ8.out⟩
                  case measure => simp [intOf]
                · have o1 := ownver_put (x := ⟨xid, xvals, xlo, xhi, xrlo, xrhi⟩) hO6 hll (k := (jp + 1)) (by omega) HX6.out
                  have hls : ((p' ++ [y]) ++ h :: q).set (jp + 1) ⟨xid, xvals, xlo, xhi, xrlo, xrhi⟩ = (p' ++ [y]) ++ ⟨xid, xvals, xlo, xhi, xrlo, xrhi⟩ :: q := by
                    have hJ : (p' ++ [y]).length = jp + 1 := by rw [List.length_append, hpl]; rfl
                    rw [List.set_append_right _ _ (by rw [hJ]; exact Nat.le_refl _), hJ, Nat.sub_self]
                    rfl
                  rw [hls] at o1
                  have hb1 := HB6.out.grown o1.2 (by show _ ≤ w6.heap.size; omega) (fun k' hk' => by cases hk'; omega)
                  have hxp7 := (o1.2.block w.heap.size (by show _ < w6.heap.size; omega) (fun h => by cases h; exact hgn.1 rfl)).trans hxp6
                  have hFIN : (p' ++ [y]) ++ ⟨xid, xvals, xlo, xhi, xrlo, xrhi⟩ :: q = affV plo phi e pred (l.take (k + 1)) := by
                    rw [← HT.out, ← HTT.out, ← HP.out]
                    rw [insV_snoc, if_neg (show ¬ xid < y.id by omega)]; simp
                  rw [hFIN] at o1
                  have HO7 := Lib.hid o1.1.drew
                  have HXP7 := Lib.hid (heap_drew hxp7)
                  have HB7 := Lib.hid hb1.drew
                  clear o1 hls hb1 hxp7 hFIN
                  clear hO6 HX6 hx6 hxp6 hbv6 hB6 hll hSy hgy hgh hpl hpj hpq
                  have hxd : decide (xid < y.id) = false := by rw [decide_eq_false_iff_not]; exact hxy
                  have hyx : y.id ≤ xid := by omega
                  clear hxy
                  go_wp2_with fail
                  go_region
                  go_wp2_with fail
                  go_roundw
                  case rel => exact ⟨k + 1, by omega, by go_num, HO7.out, HXP7.out, HB7.out⟩
                  case measure => simp [intOf]; omega
      · have hnc' : (xrhi != 1099511627776) = true := hnc.symm
        clear hnc
        have HT : Hid (affV plo phi e pred (l.take (k + 1)) = s) := by
          show _ = _
          unfold affV
          rw [take_get HX.out, List.filter_append, List.filter_cons_of_neg (by rw [HKV.out]; simp)]
          rw [HSS.out]
          simp [affV]
        go_wp2_with fail
        go_roundw
        case rel => exact ⟨k + 1, by omega, by go_num, by rw [HT.out]; exact HO2.out, HXP2.out, HB2w.out⟩
        case measure => simp [intOf]; omega
    · have HF : Hid (affV plo phi e pred (l.take k) = affV plo phi e pred l) := by show _ = _; rw [List.take_of_length_le (by rw [← HN.out]; omega)]
      rw [HF.out] at hO ⊢
      have HO := Lib.hid hO
      have HB := Lib.hid hB
      clear hO hB hxp
      go_wp2_with fail
      go_ret
      exact ⟨_, rfl, HO.out.mono (Nat.le_succ _), HB.out⟩
end Go.Proofs.Ytminnkihcohflaa

namespace Go.Proofs.Ytminnkihcohflaa
open Go.RowKit Go.Lib Go.Shelf

/-- slices.Clone of values: a row of the call's own. -/
theorem cloneVals_own (v : Value) (l : List GVal) (w : World) (hr : Sl valE w free v l) (hs : l.length ≤ 1000) :
    Calls Try.prog 55 #[v] w (RetOwn valE w l) := by
  obtain ⟨_, _, a, c, rfl, _, hp⟩ := hr.reads
  obtain ⟨i0, hi, hz0, hz1, hz2⟩ := info_parts val_info
  have q22 : ∀ (w : World) (a : Option Addr) (n c n' c' : Nat), (binOp .eql 34 (.slice a n c) (.slice none n' c')).run Try.prog w = .ok (.bool a.isNone) w := fun w a n c n' c' => Lib.run_eql_slice_nil w _ _ a n c n' c' Try.underlying34
  cases a with
  | none =>
    have hl : l.length = 0 := by
      rcases Nat.eq_zero_or_pos l.length with h | h
      · exact h
      · obtain ⟨b, o, e, _⟩ := hp h; cases e
    refine (AnyE.slices_Clone_nil sh_clone78 _ _ _).mono ?_
    rintro e w' ⟨rfl, rfl⟩
    have : l = [] := List.eq_nil_of_length_eq_zero hl
    subst this
    exact ⟨_, rfl, Own.nil _ _ _, Below.refl _ _⟩
  | some p =>
    rcases Nat.eq_zero_or_pos l.length with h | h
    · have : l = [] := List.eq_nil_of_length_eq_zero h
      subst this
      clear hr hp
      go_enter Try.func55, Try.ntmps55
      go_wp2_with (at_builtin; refine wpList_append_own _ rfl _ _ 34 rfl w.heap.size 79 i0 _ 3 32 Try.underlying34 hi hz0 hz1 hz2 rfl (by decide) _ _ _ rfl (World.ownsRow_made w #[] 0 (Nat.le_refl _) (Nat.zero_le _) rfl) p 0 c [] rfl rfl (by intro j u hj; simp at hj) (by intro u hu; cases hu) (by unfold maxLen; omega) (by omega) (by simp) ?_; intro v' w1 hown hgrow _)
      go_ret
      exact ⟨v', rfl, Own.of_flat hown, ((Below.refl _ w).alloc (Nat.le_refl _) _).grown hgrow (by simp) (fun k hk => ((World.ownsRow_made (base := w.heap.size) (e := 79) (size := 3) w #[] 0 (Nat.le_refl _) (Nat.zero_le _) rfl).lt k hk).1)⟩
    obtain ⟨b, o, e, hc⟩ := hp h
    cases e
    refine (AnyE.slices_Clone sh_clone78 i0 _ 3 32 hi hz0 hz1 hz2 rfl (by decide) (fun w => Try.sizeOf79 w) b o l.length c (valCells l) w (valCells_length l) (by unfold maxLen; omega) (by omega) hc (valCells_one l)).mono ?_
    rintro e w' ⟨v', rfl, ho, _, hb⟩
    exact ⟨_, rfl, Own.of_flat ho, hb⟩
/-- An assignment. -/
structure Asg where
  col : Int
  ex : Int
theorem asg_info : (Try.prog.info? 83).map (fun i => (i.zero, i.size, i.bytes)) = some (some (.agg #[.int .i64 0, .int .i64 0]), 2, 16) := by kernel_rfl
def asgE : El Try.prog Asg := El.flat 83 2 16 (by decide) (info_mk asg_info rfl) (fun x => [.int .i64 x.col, .int .i64 x.ex]) (fun _ => rfl) (by intro x u hu; simp at hu; rcases hu with rfl | rfl <;> rfl)
theorem asg_at {w : World} {a : Option Addr} {n c k : Nat} {l : List Asg} {x : Asg} (h : Sl asgE w free (.slice a n c) l) (hk : l[k]? = some x) :
    ∃ b o, a = some ⟨b, o, none⟩ ∧ w.cell? ⟨b, o + k * 2, none⟩ = some (.int .i64 x.col) ∧ w.cell? ⟨b, o + k * 2 + 1, none⟩ = some (.int .i64 x.ex) := by
  obtain ⟨b, o, cs, ha, rfl, hc⟩ := Sl.at h hk
  exact ⟨b, o, ha, hc 0 _ rfl, hc 1 _ rfl⟩
def asg1 (e : List GExp) (old : List GVal) (vals : List GVal) (s : Asg) : List GVal := if 0 ≤ s.col ∧ s.col < vals.length then vals.set s.col.toNat (evalG e s.ex old) else vals
/-- The values behind the assignments. -/
def asgV (e : List GExp) (set : List Asg) (old : List GVal) : List GVal := set.foldl (asg1 e old) old
theorem asg1_length (e : List GExp) (old vals : List GVal) (s : Asg) : (asg1 e old vals s).length = vals.length := by unfold asg1; split <;> simp
theorem asgV_snoc (e : List GExp) (set : List Asg) (s : Asg) (old : List GVal) : asgV e (set ++ [s]) old = asg1 e old (asgV e set old) s := by unfold asgV; rw [List.foldl_append]; rfl
theorem asgV_length (e : List GExp) (set : List Asg) (old : List GVal) : (asgV e set old).length = old.length := by
  suffices h : ∀ v, (set.foldl (asg1 e old) v).length = v.length from h old
  induction set with
  | nil => intro v; rfl
  | cons x l ih => intro v; rw [List.foldl_cons, ih, asg1_length]
set_option maxHeartbeats 4000000 in
set_option maxRecDepth 100000 in
theorem upd1_any (vo vs ve : Value) (old : List GVal) (set : List Asg) (e : List GExp) (g1 g2 : Nat) (w : World) (ho : Sl valE w free vo old) (hs : Sl asgE w free vs set) (he : Sl expE w free ve e)
    (h1 : w.cell? ⟨g1, 0, none⟩ = some vs) (h2 : w.cell? ⟨g2, 0, none⟩ = some ve) (hel : e.length ≤ 1000) (hol : old.length ≤ 1000) (hc : ∀ x ∈ e, In64 x.c.n) (hvn : ∀ g ∈ old, In64 g.n) :
    Calls Try.prog 59 #[vo, .pointer (some ⟨g1, 0, none⟩), .pointer (some ⟨g2, 0, none⟩)] w (RetOwn valE w (asgV e set old)) := by
  obtain ⟨a, c, rfl⟩ := ho.shape
  obtain ⟨a2, c2, rfl⟩ := hs.shape
  obtain ⟨a3, c3, rfl⟩ := he.shape
  have HO := Lib.hid ho
  have HS := Lib.hid hs
  have HE := Lib.hid he
  have HC := Lib.hid hc
  have HVN := Lib.hid hvn
  obtain ⟨n, hn⟩ : ∃ n, n = set.length := ⟨_, rfl⟩
  have HN := Lib.hid hn
  have hsn := hs.1
  rw [← hn] at HS hsn h1
  have H1 := Lib.hid h1
  have H2 := Lib.hid h2
  clear ho hs he hc hvn hn
  go_enter Try.func59, Try.ntmps59
  go_wp2_with fail
  refine (cloneVals_own _ old _ HO.out hol).mono ?_
  rintro _ w1 ⟨v1, rfl, hO1, hB1⟩
  obtain ⟨a4, c4, rfl⟩ := hO1.shape
  have h1' := cell_keep hB1 h1
  have h2' := cell_keep hB1 h2
  have HO1 := Lib.hid hO1
  have HB1 := Lib.hid hB1
  clear h1 h2 hO1 hB1
  go_wp2_with fail
  go_loopw [12] (fun i wr => ∃ k : Nat, k ≤ n ∧ i = .int .i64 k ∧ Own valE wr w.heap.size (.slice a4 old.length c4) (asgV e (set.take k) old) ∧ Below w.heap.size w wr) (fun i _ => n - (intOf i).toNat)
  case atStart => exact ⟨0, Nat.zero_le _, rfl, HO1.out, HB1.out⟩
  case round =>
    obtain ⟨k, hk, rfl, hOk, hBk⟩ := hrel
    obtain ⟨wo, rfl⟩ : ∃ wo : World, wo = wr := ⟨_, rfl⟩
    by_cases hlt : k < n
    · obtain ⟨x, hx⟩ := lget_some set k (by rw [← HN.out]; exact hlt)
      obtain ⟨b, o, rfl, p0, p1⟩ := asg_at (HS.out.below hBk) hx
      have HX := Lib.hid hx
      have HOk := Lib.hid hOk
      have HBk := Lib.hid hBk
      have HLK : Hid ((asgV e (set.take k) old).length = old.length) := asgV_length _ _ _
      obtain ⟨col, ex⟩ := x
      dsimp only at p0 p1
      clear hx hOk hBk
      have HT : ∀ r, asg1 e old (asgV e (set.take k) old) ⟨col, ex⟩ = r → Hid (asgV e (set.take (k + 1)) old = r) := fun r hr => by
        show _ = _
        rw [take_get HX.out, asgV_snoc, hr]
      by_cases hc0 : 0 ≤ col
      · by_cases hc1 : col < (old.length : Int)
        · obtain ⟨C, rfl⟩ := Int.eq_ofNat_of_zero_le hc0
          have hC : C < old.length := by omega
          obtain ⟨z, hz⟩ := lget_some (asgV e (set.take k) old) C (by rw [HLK.out]; exact hC)
          obtain ⟨gO, rfl⟩ : ∃ gO, a4 = some ⟨gO, 0, none⟩ := by
            obtain ⟨b', o', e', _⟩ := val_at HOk.out.sl hz
            subst e'
            obtain ⟨xs, h1, _⟩ := HOk.out
            rcases h1.2 with ⟨h', _⟩ | ⟨g', cap', cur, h', _⟩
            · simp at h'
            · simp only [Value.slice.injEq, Option.some.injEq, Addr.mk.injEq] at h'
              obtain ⟨⟨_, ho', _⟩, _⟩ := h'
              exact ⟨b', by rw [ho']⟩
          have hgO := HOk.out.lt gO rfl
          have HOa := HOk.out.below (below_alloc wo (.cells #[.int .i64 (C : Int), .int .i64 ex] 83))
          have HBa := below_alloc_keep (o := .cells #[.int .i64 (C : Int), .int .i64 ex] 83) HBk.out
          obtain ⟨q0, q1, q2⟩ := own_at3 HOa hz
          replace q0 := vAt_of q0
          replace q1 := vAt_of q1
          replace q2 := vAt_of q2
          have f0 := own_frozen HOa HLK.out (C * 3)
          have f1 := own_frozen HOa HLK.out (C * 3 + 1)
          have f2 := own_frozen HOa HLK.out (C * 3 + 2)
          obtain ⟨b0, b1, _, _⟩ := box_two (World.alloc_heap_new wo (.cells #[.int .i64 (C : Int), .int .i64 ex] 83))
          have e0 := cell_keep (below_alloc wo (.cells #[.int .i64 (C : Int), .int .i64 ex] 83)) (cell_keep HBk.out H2.out)
          have hg2 : g2 < w.heap.size := World.block_lt_of_cell? w _ H2.out
          have n1 : gO ≠ wo.heap.size := by omega
          have n2 : gO ≠ g2 := by omega
          have n3 : w.heap.size ≤ gO := hgO.1
          have HEV : ∀ W, Below w.heap.size w W → Hid (Calls Try.prog 60 #[.slice a3 e.length c3, .int .i64 ex, .slice a old.length c] W fun e' w' => e' = .returned (aggG (evalG e ex old)) ∧ Below W.heap.size W w') := fun W hW =>
            eval_any _ _ e ex old W (HE.out.below hW) (HO.out.below hW) (by omega) HC.out HVN.out
          obtain ⟨y, hy⟩ : ∃ y, y = evalG e ex old := ⟨_, rfl⟩
          rw [← hy] at HEV
          have HT1 := HT ((asgV e (set.take k) old).set C y) (by unfold asg1; rw [if_pos ⟨hc0, by rw [HLK.out]; exact hc1⟩, hy]; rfl)
          have HOA := Lib.hid HOa
          have HBA := Lib.hid HBa
          unfold aggG at HEV
          clear HT hz hy HOa HBa
          have HBB := HBA.out
          go_wp2_with fail
          go_region_held3 (fun W => Below w.heap.size w W ∧ W.cell? ⟨wo.heap.size, 0, none⟩ = some (.int .i64 (C : Int)) ∧ W.cell? ⟨wo.heap.size, 1, none⟩ = some (.int .i64 ex) ∧ W.cell? ⟨g2, 0, none⟩ = some (.slice a3 e.length c3)
              ∧ W.cell? ⟨gO, C * 3, none⟩ = some (vAt W ⟨gO, C * 3, none⟩) ∧ W.cell? ⟨gO, C * 3 + 1, none⟩ = some (vAt W ⟨gO, C * 3 + 1, none⟩) ∧ W.cell? ⟨gO, C * 3 + 2, none⟩ = some (vAt W ⟨gO, C * 3 + 2, none⟩)
              ∧ W.frozen? ⟨gO, C * 3, none⟩ = false ∧ W.frozen? ⟨gO, C * 3 + 1, none⟩ = false ∧ W.frozen? ⟨gO, C * 3 + 2, none⟩ = false)
            ((go_split_ands; refine ⟨?_, ?_, ?_, ?_, ?_, ?_, ?_, ?_, ?_, ?_⟩ <;> first | (with_reducible assumption) | with_reducible exact Below.drew (by assumption) | with_reducible exact cell_drew (by assumption) | with_reducible exact vAt_drew (by assumption) | with_reducible exact frozen_drew (by assumption) | with_reducible exact below_tr3 (Nat.le_refl _) (by assumption) (by assumption) | with_reducible exact cell_keep (by assumption) (by assumption) | with_reducible exact vAt_keep (by assumption) (by assumption) | with_reducible exact frozen_keep (by assumption) (by assumption) (by assumption) | with_reducible exact below_set3 (by assumption) (by assumption) (by assumption) (by assumption) | with_reducible exact cell_set3 (by assumption) (by assumption) rfl rfl | with_reducible exact vAt_set3 (by assumption) | with_reducible exact frozen_set3 (by assumption)))
            (first
              | (go_at_call 60; go_split_ands; refine (HEV _ (by first | assumption | exact Below.drew (by assumption))).out.mono ?_; rintro e' wE ⟨rfl, hbE⟩))
          have o1 := own_set3 (HOA.out.drew.below hbE) HLK.out hC y
          have hbw : Below w.heap.size w wE := below_tr3 (Nat.le_refl _) HBB.drew hbE
          have HO2 := Lib.hid o1
          have HB2 := Lib.hid (below_set3 (q1 := ⟨gO, C * 3, none⟩) (q2 := ⟨gO, C * 3 + 1, none⟩) (q3 := ⟨gO, C * 3 + 2, none⟩) (u1 := .int .i64 y.kind) (u2 := .int .i64 y.n) (u3 := .string y.s) hbw n3 n3 n3)
          clear o1 hbw hbE HBB
          go_wp2_with fail
          go_roundw
          case rel => exact ⟨k + 1, by omega, by go_num, by rw [HT1.out]; exact HO2.out, HB2.out⟩
          case measure => simp [intOf]; omega
        · have HT1 := HT _ (by unfold asg1; rw [if_neg]; rw [HLK.out]; intro h; exact hc1 h.2)
          clear HT
          go_wp2_with fail
          go_roundw
          case rel => exact ⟨k + 1, by omega, by go_num, by rw [HT1.out]; exact HOk.out.below (below_alloc _ _), HBk.out.trans ((below_alloc _ _).mono HBk.out.size)⟩
          case measure => simp [intOf]; omega
      · have HT1 := HT _ (by unfold asg1; rw [if_neg]; intro h; exact hc0 h.1)
        clear HT
        go_wp2_with fail
        go_roundw
        case rel => exact ⟨k + 1, by omega, by go_num, by rw [HT1.out]; exact HOk.out.below (below_alloc _ _), HBk.out.trans ((below_alloc _ _).mono HBk.out.size)⟩
        case measure => simp [intOf]; omega
    · have HF : Hid (asgV e (set.take k) old = asgV e set old) := by show _ = _; rw [List.take_of_length_le (by rw [← HN.out]; omega)]
      rw [HF.out] at hOk
      have HOk := Lib.hid hOk
      have HBk := Lib.hid hBk
      clear hOk hBk
      go_wp2_with fail
      go_ret
      exact ⟨_, rfl, HOk.out, HBk.out⟩
set_option maxHeartbeats 4000000 in
set_option maxRecDepth 100000 in
theorem rassign_any (vo vs ve : Value) (old : List GVal) (set : List Asg) (e : List GExp) (w : World) (ho : Sl valE w free vo old) (hs : Sl asgE w free vs set) (he : Sl expE w free ve e)
    (hel : e.length ≤ 1000) (hol : old.length ≤ 1000) (hc : ∀ x ∈ e, In64 x.c.n) (hvn : ∀ g ∈ old, In64 g.n) :
    Calls Try.prog 89 #[vo, ve, vs] w (RetOwn valE w (asgV e set old)) := by
  obtain ⟨a, c, rfl⟩ := ho.shape
  obtain ⟨a2, c2, rfl⟩ := hs.shape
  obtain ⟨a3, c3, rfl⟩ := he.shape
  have HO := Lib.hid ho
  have HS := Lib.hid hs
  have HE := Lib.hid he
  have HC := Lib.hid hc
  have HVN := Lib.hid hvn
  obtain ⟨n, hn⟩ : ∃ n, n = set.length := ⟨_, rfl⟩
  have HN := Lib.hid hn
  have hsn := hs.1
  rw [← hn] at HS hsn ⊢
  clear ho hs he hc hvn hn
  go_enter Try.func89, Try.ntmps89
  have HCL : Hid (Sl valE w (fun k => some k = (Value.slice none 0 0).ownBlock) (.slice a old.length c) old) := HO.out.mono (fun k _ h => by cases h)
  go_wp2_with (at_builtin; refine wpList_join rfl (.const (.slice none 0 0)) (.tmp 10) 34 rfl valE Try.underlying34 w.heap.size (.slice none 0 0) (.slice a old.length c) [] old rfl rfl (Own.nil _ _ _) HCL.out (by unfold maxLen; simp; omega) (by show _ * 32 ≤ _; simp; omega) (Nat.le_refl _) old.length (by simp) ?_; intro a4 c4 w1 hJ)
  have HO1 : Hid (Own valE w1 w.heap.size (.slice a4 old.length c4) old) := hJ.own
  have HB1 := Lib.hid hJ.below
  clear hJ HCL
  go_wp2_with fail
  go_loopw [14] (fun i wr => ∃ k : Nat, k ≤ n ∧ i = .int .i64 k ∧ Own valE wr w.heap.size (.slice a4 old.length c4) (asgV e (set.take k) old) ∧ Below w.heap.size w wr) (fun i _ => n - (intOf i).toNat)
  case atStart => exact ⟨0, Nat.zero_le _, rfl, HO1.out, HB1.out⟩
  case round =>
    obtain ⟨k, hk, rfl, hOk, hBk⟩ := hrel
    obtain ⟨wo, rfl⟩ : ∃ wo : World, wo = wr := ⟨_, rfl⟩
    by_cases hlt : k < n
    · obtain ⟨x, hx⟩ := lget_some set k (by rw [← HN.out]; exact hlt)
      obtain ⟨b, o, rfl, p0, p1⟩ := asg_at (HS.out.below hBk) hx
      have HX := Lib.hid hx
      have HOk := Lib.hid hOk
      have HBk := Lib.hid hBk
      have HLK : Hid ((asgV e (set.take k) old).length = old.length) := asgV_length _ _ _
      obtain ⟨col, ex⟩ := x
      dsimp only at p0 p1
      clear hx hOk hBk
      have HT : ∀ r, asg1 e old (asgV e (set.take k) old) ⟨col, ex⟩ = r → Hid (asgV e (set.take (k + 1)) old = r) := fun r hr => by
        show _ = _
        rw [take_get HX.out, asgV_snoc, hr]
      by_cases hc0 : 0 ≤ col
      · by_cases hc1 : col < (old.length : Int)
        · obtain ⟨C, rfl⟩ := Int.eq_ofNat_of_zero_le hc0
          have hC : C < old.length := by omega
          obtain ⟨z, hz⟩ := lget_some (asgV e (set.take k) old) C (by rw [HLK.out]; exact hC)
          obtain ⟨gO, rfl⟩ : ∃ gO, a4 = some ⟨gO, 0, none⟩ := by
            obtain ⟨b', o', e', _⟩ := val_at HOk.out.sl hz
            subst e'
            obtain ⟨xs, h1, _⟩ := HOk.out
            rcases h1.2 with ⟨h', _⟩ | ⟨g', cap', cur, h', _⟩
            · simp at h'
            · simp only [Value.slice.injEq, Option.some.injEq, Addr.mk.injEq] at h'
              obtain ⟨⟨_, ho', _⟩, _⟩ := h'
              exact ⟨b', by rw [ho']⟩
          have hgO := HOk.out.lt gO rfl
          have HOa := HOk.out.below (below_alloc wo (.cells #[.int .i64 (C : Int), .int .i64 ex] 83))
          have HBa := below_alloc_keep (o := .cells #[.int .i64 (C : Int), .int .i64 ex] 83) HBk.out
          obtain ⟨q0, q1, q2⟩ := own_at3 HOa hz
          replace q0 := vAt_of q0
          replace q1 := vAt_of q1
          replace q2 := vAt_of q2
          have f0 := own_frozen HOa HLK.out (C * 3)
          have f1 := own_frozen HOa HLK.out (C * 3 + 1)
          have f2 := own_frozen HOa HLK.out (C * 3 + 2)
          obtain ⟨b0, b1, _, _⟩ := box_two (World.alloc_heap_new wo (.cells #[.int .i64 (C : Int), .int .i64 ex] 83))
          have n1 : gO ≠ wo.heap.size := by omega
          have n3 : w.heap.size ≤ gO := hgO.1
          have HEV : ∀ W, Below w.heap.size w W → Hid (Calls Try.prog 118 #[.slice a3 e.length c3, .int .i64 ex, .slice a old.length c] W fun e' w' => e' = .returned (aggG (evalG e ex old)) ∧ Below W.heap.size W w') := fun W hW =>
            reEval_any _ _ e ex old W (HE.out.below hW) (HO.out.below hW) (by omega) HC.out HVN.out
          obtain ⟨y, hy⟩ : ∃ y, y = evalG e ex old := ⟨_, rfl⟩
          rw [← hy] at HEV
          have HT1 := HT ((asgV e (set.take k) old).set C y) (by unfold asg1; rw [if_pos ⟨hc0, by rw [HLK.out]; exact hc1⟩, hy]; rfl)
          have HOA := Lib.hid HOa
          have HBA := Lib.hid HBa
          unfold aggG at HEV
          clear HT hz hy HOa HBa
          have HBB := HBA.out
          go_wp2_with fail
          go_region_held3 (fun W => Below w.heap.size w W ∧ W.cell? ⟨wo.heap.size, 0, none⟩ = some (.int .i64 (C : Int)) ∧ W.cell? ⟨wo.heap.size, 1, none⟩ = some (.int .i64 ex)
              ∧ W.cell? ⟨gO, C * 3, none⟩ = some (vAt W ⟨gO, C * 3, none⟩) ∧ W.cell? ⟨gO, C * 3 + 1, none⟩ = some (vAt W ⟨gO, C * 3 + 1, none⟩) ∧ W.cell? ⟨gO, C * 3 + 2, none⟩ = some (vAt W ⟨gO, C * 3 + 2, none⟩)
              ∧ W.frozen? ⟨gO, C * 3, none⟩ = false ∧ W.frozen? ⟨gO, C * 3 + 1, none⟩ = false ∧ W.frozen? ⟨gO, C * 3 + 2, none⟩ = false)
            ((go_split_ands; refine ⟨?_, ?_, ?_, ?_, ?_, ?_, ?_, ?_, ?_⟩ <;> first | (with_reducible assumption) | with_reducible exact Below.drew (by assumption) | with_reducible exact cell_drew (by assumption) | with_reducible exact vAt_drew (by assumption) | with_reducible exact frozen_drew (by assumption) | with_reducible exact below_tr3 (Nat.le_refl _) (by assumption) (by assumption) | with_reducible exact cell_keep (by assumption) (by assumption) | with_reducible exact vAt_keep (by assumption) (by assumption) | with_reducible exact frozen_keep (by assumption) (by assumption) (by assumption) | with_reducible exact below_set3 (by assumption) (by assumption) (by assumption) (by assumption) | with_reducible exact cell_set3 (by assumption) (by assumption) rfl rfl | with_reducible exact vAt_set3 (by assumption) | with_reducible exact frozen_set3 (by assumption)))
            (first
              | (go_at_call 118; go_split_ands; refine (HEV _ (by first | assumption | exact Below.drew (by assumption))).out.mono ?_; rintro e' wE ⟨rfl, hbE⟩))
          have o1 := own_set3 (HOA.out.drew.below hbE) HLK.out hC y
          have hbw : Below w.heap.size w wE := below_tr3 (Nat.le_refl _) HBB.drew hbE
          have HO2 := Lib.hid o1
          have HB2 := Lib.hid (below_set3 (q1 := ⟨gO, C * 3, none⟩) (q2 := ⟨gO, C * 3 + 1, none⟩) (q3 := ⟨gO, C * 3 + 2, none⟩) (u1 := .int .i64 y.kind) (u2 := .int .i64 y.n) (u3 := .string y.s) hbw n3 n3 n3)
          clear o1 hbw hbE HBB
          go_wp2_with fail
          go_roundw
          case rel => exact ⟨k + 1, by omega, by go_num, by rw [HT1.out]; exact HO2.out, HB2.out⟩
          case measure => simp [intOf]; omega
        · have HT1 := HT _ (by unfold asg1; rw [if_neg]; rw [HLK.out]; intro h; exact hc1 h.2)
          clear HT
          go_wp2_with fail
          go_roundw
          case rel => exact ⟨k + 1, by omega, by go_num, by rw [HT1.out]; exact HOk.out.below (below_alloc _ _), HBk.out.trans ((below_alloc _ _).mono HBk.out.size)⟩
          case measure => simp [intOf]; omega
      · have HT1 := HT _ (by unfold asg1; rw [if_neg]; intro h; exact hc0 h.1)
        clear HT
        go_wp2_with fail
        go_roundw
        case rel => exact ⟨k + 1, by omega, by go_num, by rw [HT1.out]; exact HOk.out.below (below_alloc _ _), HBk.out.trans ((below_alloc _ _).mono HBk.out.size)⟩
        case measure => simp [intOf]; omega
    · have HF : Hid (asgV e (set.take k) old = asgV e set old) := by show _ = _; rw [List.take_of_length_le (by rw [← HN.out]; omega)]
      rw [HF.out] at hOk
      have HOk := Lib.hid hOk
      have HBk := Lib.hid hBk
      clear hOk hBk
      go_wp2_with fail
      go_ret
      exact ⟨_, rfl, HOk.out, HBk.out⟩
end Go.Proofs.Ytminnkihcohflaa


