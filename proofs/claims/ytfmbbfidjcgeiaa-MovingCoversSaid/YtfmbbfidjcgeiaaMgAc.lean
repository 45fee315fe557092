/- A part of the proofs: ExpI, EvlP, TrP, MvP, Mnf, Hand, Wde, Sum, EvlA, EvlB, EvlC, EvlD, EvlE, EvlF. No condition beside sizes and tables that read as laid. -/
import Derived.Test.YtfmbbfidjcgeiaaMgAb
import Derived.Test.YtfmbbfidjcgeiaaMgAa
import Derived.Deep.RegionHeld3
import Derived.Laws.Externs
import Derived.Deep.DeepCutAuto
import Derived.IntWalk
namespace Go.Proofs.Ytfmbbfidjcgeiaa
open Go.RowKit Go.Lib Go.Shelf

theorem getD_some {α : Type} {l : List α} {k : Nat} {x d : α} (h : l[k]? = some x) : l.getD k d = x := by simp [List.getD, h]
theorem legal2 {op xa xb col : Int} {c : GVal} {k : Nat} (ha : arity op = 2) (h : legalX ⟨op, xa, xb, col, c⟩ k = true) : ∃ A B : Nat, xa = (A : Int) ∧ xb = (B : Int) ∧ A < k ∧ B < k := by
  simp [legalX, ha] at h
  obtain ⟨A, rfl⟩ := Int.eq_ofNat_of_zero_le h.1.1
  obtain ⟨B, rfl⟩ := Int.eq_ofNat_of_zero_le h.2.1
  exact ⟨A, B, rfl, rfl, by omega, by omega⟩
theorem legal1 {op xa xb col : Int} {c : GVal} {k : Nat} (ha : arity op = 1) (h : legalX ⟨op, xa, xb, col, c⟩ k = true) : ∃ A : Nat, xa = (A : Int) ∧ A < k := by
  simp [legalX, ha] at h
  obtain ⟨A, rfl⟩ := Int.eq_ofNat_of_zero_le h.1
  exact ⟨A, rfl, by omega⟩
theorem xev_legal {op xa xb col : Int} {c : GVal} {k : Nat} {row done : List GVal} (ha : 0 ≤ arity op) (h : legalX ⟨op, xa, xb, col, c⟩ k = true) : xev ⟨op, xa, xb, col, c⟩ k row done = xapp op col c row (done.getD xa.toNat gnull) (done.getD xb.toNat gnull) := by
  rw [xev, if_neg]
  simp [h]; omega

set_option maxHeartbeats 2000000 in
theorem reval_any (v vr vd : Value) (l : List GExp) (k : Nat) (x : GExp) (row done : List GVal) (w : World) (hv : Sl expE w free v l) (hk : l[k]? = some x) (hr : Sl valE w free vr row) (hd : Sl valE w free vd done) (hdl : k ≤ done.length) (hn : ∀ g ∈ done, In64 g.n) :
    Calls Try.prog 63 #[v, .int .i64 (k : Int), vr, vd] w fun e w' => e = .returned (aggG (xev x k row done)) ∧ Below w.heap.size w w' := by
  obtain ⟨op, xa, xb, col, c⟩ := x
  obtain ⟨a1, c1, rfl⟩ := hv.shape
  obtain ⟨a2, c2, rfl⟩ := hr.shape
  obtain ⟨a3, c3, rfl⟩ := hd.shape
  have hkl := (List.getElem?_eq_some_iff.1 hk).1
  have h63 := hv.1
  have h63r := hr.1
  have h63d := hd.1
  obtain ⟨b, o, rfl, e0, e1, e2, e3, e4, e5, e6⟩ := exp_at hv hk
  have HAR : ∀ W, Hid (Calls Try.prog 79 #[.int .i64 op] W fun e w' => e = .returned (.int .i64 (arity op)) ∧ W = w') := fun W => rarity_any op W
  have HLG : ∀ W, Below w.heap.size w W → Hid (Calls Try.prog 80 #[.slice (some ⟨b, o, none⟩) l.length c1, .int .i64 (k : Int)] W fun e w' => e = .returned (.bool (legalX ⟨op, xa, xb, col, c⟩ k)) ∧ W = w') := fun W hb => rlegal_any _ l k _ W (hv.below hb) hk
  by_cases har : arity op < 0
  · rw [show xev ⟨op, xa, xb, col, c⟩ k row done = gnull by rw [xev, if_pos (.inl har)]]
    exact reval_unknown b o l.length c1 k c.kind c.n c.s w hkl h63 _ _ op xa xb col (arity op) har e0 e1 e2 e3 e4 e5 e6 HAR
  · cases hleg : legalX ⟨op, xa, xb, col, c⟩ k
    · rw [show xev ⟨op, xa, xb, col, c⟩ k row done = gnull by rw [xev, if_pos (.inr hleg)]]
      rw [hleg] at HLG
      exact reval_illegal b o l.length c1 k c.kind c.n c.s w hkl h63 _ _ op xa xb col (arity op) (by omega) e0 e1 e2 e3 e4 e5 e6 HAR HLG
    · rw [xev_legal (by omega) hleg]
      rw [hleg] at HLG
      have hget : ∀ A : Nat, A < k → ∃ g, done[A]? = some g ∧ In64 g.n := fun A hA => by
        obtain ⟨g, hg⟩ := lget_some done A (by omega)
        exact ⟨g, hg, hn g (List.mem_of_getElem? hg)⟩
      have hop : 1 ≤ op ∧ op ≤ 11 := by have := arity_cases op; omega
      have two : ∀ (hop : 3 ≤ op ∧ op ≤ 9), ∃ (A B : Nat) (b3 o3 : Nat) (ga gb : GVal), xa = (A : Int) ∧ xb = (B : Int) ∧ A < done.length ∧ B < done.length ∧ a3 = some ⟨b3, o3, none⟩ ∧ done.getD xa.toNat gnull = ga ∧ done.getD xb.toNat gnull = gb ∧ In64 ga.n ∧ In64 gb.n ∧
          (w.cell? ⟨b3, o3 + A * 3, none⟩ = some (.int .i64 ga.kind) ∧ w.cell? ⟨b3, o3 + A * 3 + 1, none⟩ = some (.int .i64 ga.n) ∧ w.cell? ⟨b3, o3 + A * 3 + 2, none⟩ = some (.string ga.s)) ∧
          (w.cell? ⟨b3, o3 + B * 3, none⟩ = some (.int .i64 gb.kind) ∧ w.cell? ⟨b3, o3 + B * 3 + 1, none⟩ = some (.int .i64 gb.n) ∧ w.cell? ⟨b3, o3 + B * 3 + 2, none⟩ = some (.string gb.s)) := by
        intro hop
        obtain ⟨A, B, rfl, rfl, hA, hB⟩ := legal2 (by have := arity_cases op; omega) hleg
        obtain ⟨ga, hga, na⟩ := hget A hA
        obtain ⟨gb, hgb, nb⟩ := hget B hB
        obtain ⟨b3, o3, rfl, p⟩ := val_at hd hga
        obtain ⟨b3', o3', e', q⟩ := val_at hd hgb
        cases e'
        exact ⟨A, B, b3, o3, ga, gb, rfl, rfl, by omega, by omega, rfl, by simpa using getD_some hga, by simpa using getD_some hgb, na, nb, p, q⟩
      have one : ∀ (hop : op = 10 ∨ op = 11), ∃ (A : Nat) (b3 o3 : Nat) (ga : GVal), xa = (A : Int) ∧ A < done.length ∧ a3 = some ⟨b3, o3, none⟩ ∧ done.getD xa.toNat gnull = ga ∧
          (w.cell? ⟨b3, o3 + A * 3, none⟩ = some (.int .i64 ga.kind) ∧ w.cell? ⟨b3, o3 + A * 3 + 1, none⟩ = some (.int .i64 ga.n) ∧ w.cell? ⟨b3, o3 + A * 3 + 2, none⟩ = some (.string ga.s)) := by
        intro hop
        obtain ⟨A, rfl, hA⟩ := legal1 (by have := arity_cases op; omega) hleg
        obtain ⟨ga, hga, na⟩ := hget A hA
        obtain ⟨b3, o3, rfl, p⟩ := val_at hd hga
        exact ⟨A, b3, o3, ga, rfl, by omega, rfl, by simpa using getD_some hga, p⟩
      by_cases h2 : 3 ≤ op ∧ op ≤ 9
      · obtain ⟨A, B, b3, o3, ga, gb, rfl, rfl, hA, hB, rfl, hga, hgb, na, nb, ⟨p0, p1, p2⟩, q0, q1, q2⟩ := two h2
        rw [hga, hgb]
        rcases (by omega : op = 3 ∨ op = 4 ∨ op = 5 ∨ op = 6 ∨ op = 7 ∨ op = 8 ∨ op = 9) with rfl | rfl | rfl | rfl | rfl | rfl | rfl
        · exact reval_3 b o l.length c1 k c.kind c.n c.s w hkl h63 b3 o3 done.length c3 A B _ col ga.kind ga.n gb.kind gb.n ga.s gb.s e0 e1 e2 e3 e4 e5 e6 p0 p1 p2 hA h63d q0 q1 q2 hB na nb HAR HLG
        · exact reval_4 b o l.length c1 k c.kind c.n c.s w hkl h63 b3 o3 done.length c3 A B _ col ga.kind ga.n gb.kind gb.n ga.s gb.s e0 e1 e2 e3 e4 e5 e6 p0 p1 p2 hA h63d q0 q1 q2 hB na nb HAR HLG
        · exact reval_5 b o l.length c1 k c.kind c.n c.s w hkl h63 b3 o3 done.length c3 A B _ col ga.kind ga.n gb.kind gb.n ga.s gb.s e0 e1 e2 e3 e4 e5 e6 p0 p1 p2 hA h63d q0 q1 q2 hB na nb HAR HLG
        · exact reval_6 b o l.length c1 k c.kind c.n c.s w hkl h63 b3 o3 done.length c3 A B _ col ga.kind ga.n gb.kind gb.n ga.s gb.s e0 e1 e2 e3 e4 e5 e6 p0 p1 p2 hA h63d q0 q1 q2 hB HAR HLG
        · exact reval_7 b o l.length c1 k c.kind c.n c.s w hkl h63 b3 o3 done.length c3 A B _ col ga.kind ga.n gb.kind gb.n ga.s gb.s e0 e1 e2 e3 e4 e5 e6 p0 p1 p2 hA h63d q0 q1 q2 hB HAR HLG
        · exact reval_8 b o l.length c1 k c.kind c.n c.s w hkl h63 b3 o3 done.length c3 A B _ col ga.kind ga.n gb.kind gb.n ga.s gb.s e0 e1 e2 e3 e4 e5 e6 p0 p1 p2 hA h63d q0 q1 q2 hB HAR HLG
        · exact reval_9 b o l.length c1 k c.kind c.n c.s w hkl h63 b3 o3 done.length c3 A B _ col ga.kind ga.n gb.kind gb.n ga.s gb.s e0 e1 e2 e3 e4 e5 e6 p0 p1 p2 hA h63d q0 q1 q2 hB HAR HLG
      · by_cases h1 : op = 10 ∨ op = 11
        · obtain ⟨A, b3, o3, ga, rfl, hA, rfl, hga, p0, p1, p2⟩ := one h1
          rw [hga]
          rcases h1 with rfl | rfl
          · exact reval_10 b o l.length c1 k c.kind c.n c.s w hkl h63 b3 o3 done.length c3 A _ xb col ga.kind ga.n ga.s e0 e1 e2 e3 e4 e5 e6 p0 p1 p2 hA h63d HAR HLG
          · exact reval_11 b o l.length c1 k c.kind c.n c.s w hkl h63 b3 o3 done.length c3 A _ xb col ga.kind ga.n ga.s e0 e1 e2 e3 e4 e5 e6 p0 p1 p2 hA h63d HAR HLG
        · rcases (by omega : op = 1 ∨ op = 2) with rfl | rfl
          · exact reval_1 b o l.length c1 k c.kind c.n c.s w hkl h63 _ _ xa xb col e0 e1 e2 e3 e4 e5 e6 HAR HLG
          · by_cases hc : 0 ≤ col ∧ col < row.length
            · obtain ⟨C, rfl⟩ := Int.eq_ofNat_of_zero_le hc.1
              obtain ⟨g, hg⟩ := lget_some row C (by omega)
              obtain ⟨b4, o4, rfl, r0, r1, r2⟩ := val_at hr hg
              rw [show ∀ a b, xapp 2 (C : Int) c row a b = g from fun a b => by
                unfold xapp
                rw [if_neg (by decide), if_pos rfl, if_pos hc]
                simpa using getD_some hg]
              exact reval_2 b o l.length c1 k c.kind c.n c.s w hkl h63 b4 o4 row.length c2 C _ xa xb g.kind g.n g.s (by omega) h63r e0 e1 e2 e3 e4 e5 e6 r0 r1 r2 HAR HLG
            · rw [show ∀ a b, xapp 2 col c row a b = gnull from fun a b => by
                unfold xapp
                rw [if_neg (by decide), if_pos rfl, if_neg hc]]
              exact reval_2n b o l.length c1 k c.kind c.n c.s w hkl h63 a2 row.length c2 _ xa xb col (by omega) e0 e1 e2 e3 e4 e5 e6 HAR HLG
end Go.Proofs.Ytfmbbfidjcgeiaa

namespace Go.Proofs.Ytfmbbfidjcgeiaa
open Go.RowKit Go.Lib Go.Shelf

def gx0 : GExp := ⟨0, 0, 0, 0, gnull⟩
/-- The values of the first k expressions. -/
def vals (l : List GExp) (row : List GVal) : Nat → List GVal
  | 0 => []
  | k + 1 => vals l row k ++ [xev (l.getD k gx0) k row (vals l row k)]
theorem vals_length (l : List GExp) (row : List GVal) (k : Nat) : (vals l row k).length = k := by
  induction k with
  | zero => rfl
  | succ k ih => simp [vals, ih]
theorem getD_left {α : Type} (d p : List α) (z : α) {i : Nat} (h : i < d.length) : (d ++ p).getD i z = d.getD i z := by
  simp [List.getD, List.getElem?_append_left h]
theorem xapp_one {op : Int} (h : arity op < 2) (ha : 0 ≤ arity op) (col : Int) (c : GVal) (row : List GVal) (a b b' : GVal) : xapp op col c row a b = xapp op col c row a b' := by
  have : op = 1 ∨ op = 2 ∨ op = 10 ∨ op = 11 := by have := arity_cases op; omega
  rcases this with rfl | rfl | rfl | rfl <;> simp [xapp]
theorem xapp_none {op : Int} (h : arity op < 1) (ha : 0 ≤ arity op) (col : Int) (c : GVal) (row : List GVal) (a a' b b' : GVal) : xapp op col c row a b = xapp op col c row a' b' := by
  have : op = 1 ∨ op = 2 := by have := arity_cases op; omega
  rcases this with rfl | rfl <;> simp [xapp]
/-- What lies behind the values that are done says nothing. -/
theorem xev_pad (x : GExp) (row d p : List GVal) : xev x d.length row (d ++ p) = xev x d.length row d := by
  unfold xev
  by_cases h : arity x.op < 0 ∨ legalX x d.length = false
  · rw [if_pos h, if_pos h]
  · rw [if_neg h, if_neg h]
    have hl : legalX x d.length = true := by
      cases hh : legalX x d.length
      · exact absurd (.inr hh) h
      · rfl
    have h0 : 0 ≤ arity x.op := by
      by_cases h0 : arity x.op < 0
      · exact absurd (.inl h0) h
      · omega
    simp [legalX] at hl
    by_cases h1 : arity x.op < 1
    · exact xapp_none h1 h0 _ _ _ _ _ _ _
    · have ha := hl.1.resolve_left h1
      rw [getD_left d p gnull (i := x.a.toNat) (by omega)]
      by_cases h2 : arity x.op < 2
      · exact xapp_one h2 h0 _ _ _ _ _ _
      · have hb := hl.2.resolve_left h2
        rw [getD_left d p gnull (i := x.b.toNat) (by omega)]
theorem in64_gbool (b : Bool) : In64 (gbool b).n := by cases b <;> simp [gbool, In64]
theorem in64_gnull : In64 gnull.n := by simp [gnull, In64]
theorem in64_arith (op : Int) (a b : GVal) : In64 (arithG op a b).n := by
  unfold arithG
  split
  · split
    · rename_i h; exact h
    · exact in64_gnull
  · exact in64_gnull
theorem in64_xapp (op col : Int) (c : GVal) (row : List GVal) (a b : GVal) (hc : In64 c.n) (hr : ∀ g ∈ row, In64 g.n) : In64 (xapp op col c row a b).n := by
  unfold xapp
  split
  · exact hc
  split
  · split
    · rename_i h
      obtain ⟨g, hg⟩ := lget_some row col.toNat (by omega)
      rw [getD_some hg]
      exact hr g (List.mem_of_getElem? hg)
    · exact in64_gnull
  repeat (split; exact in64_gbool _)
  exact in64_arith _ _ _
theorem in64_xev (x : GExp) (k : Nat) (row done : List GVal) (hc : In64 x.c.n) (hr : ∀ g ∈ row, In64 g.n) : In64 (xev x k row done).n := by
  unfold xev
  split
  · exact in64_gnull
  · exact in64_xapp _ _ _ _ _ _ hc hr
theorem in64_vals (l : List GExp) (row : List GVal) (hc : ∀ x ∈ l, In64 x.c.n) (hr : ∀ g ∈ row, In64 g.n) (k : Nat) : ∀ g ∈ vals l row k, In64 g.n := by
  induction k with
  | zero => intro g hg; simp [vals] at hg
  | succ k ih =>
    intro g hg
    rcases List.mem_append.1 (by simpa only [vals] using hg) with h | h
    · exact ih g h
    · rw [List.mem_singleton.1 h]
      refine in64_xev _ _ _ _ ?_ hr
      cases hk : l[k]? with
      | none => simp [List.getD, hk, gx0]; exact in64_gnull
      | some x => rw [getD_some hk]; exact hc x (List.mem_of_getElem? hk)
/-- Eval: null where the root is none of the list's. -/
def evalG (l : List GExp) (root : Int) (row : List GVal) : GVal := if root < 0 ∨ (l.length : Int) ≤ root then gnull else (vals l row (root.toNat + 1)).getD root.toNat gnull
/-- The slice while it is filled: what is done, then the type's zeros. -/
theorem fill_set {α : Type} (d : List α) (z y : α) (n : Nat) : (d ++ List.replicate (n + 1) z).set d.length y = (d ++ [y]) ++ List.replicate n z := by
  rw [List.set_append_right _ _ (Nat.le_refl _)]
  simp [List.replicate_succ]
end Go.Proofs.Ytfmbbfidjcgeiaa

namespace Go.Proofs.Ytfmbbfidjcgeiaa

def sumI : List Int → Int
  | [] => 0
  | x :: l => x + sumI l
theorem sumI_append : ∀ l m : List Int, sumI (l ++ m) = sumI l + sumI m
  | [], m => by simp [sumI]
  | x :: l, m => by rw [List.cons_append, sumI, sumI, sumI_append l m]; omega
theorem sumI_perm {l m : List Int} (h : l.Perm m) : sumI l = sumI m := by
  induction h with
  | nil => rfl
  | cons x _ ih => rw [sumI, sumI, ih]
  | swap x y l => rw [sumI, sumI, sumI, sumI]; omega
  | trans _ _ h1 h2 => exact h1.trans h2
theorem sumI_bound {q : Int} : ∀ {l : List Int}, (∀ x ∈ l, -q ≤ x ∧ x ≤ q) → -(q * (l.length : Int)) ≤ sumI l ∧ sumI l ≤ q * (l.length : Int)
  | [], _ => by simp [sumI]
  | x :: l, h => by
    have h1 := sumI_bound (l := l) fun y hy => h y (List.mem_cons_of_mem _ hy)
    have h2 := h x (List.mem_cons_self ..)
    rw [sumI, List.length_cons, Int.natCast_add, Int.mul_add]
    omega
/-- What a node tells of some numbers: their sum, the least, the greatest. -/
structure Nd where
  s : Int
  mn : Int
  mx : Int
def leafN (x : Int) : Nd := ⟨x, x, x⟩
def mergeN (a b : Nd) : Nd := ⟨a.s + b.s, min a.mn b.mn, max a.mx b.mx⟩
/-- d tells of the numbers l. -/
structure Sm (l : List Int) (d : Nd) : Prop where
  s : d.s = sumI l
  mn : d.mn ∈ l
  low : ∀ x ∈ l, d.mn ≤ x
  mx : d.mx ∈ l
  high : ∀ x ∈ l, x ≤ d.mx
theorem Sm.leaf (x : Int) : Sm [x] (leafN x) := ⟨by simp [leafN, sumI], by simp [leafN], by simp [leafN], by simp [leafN], by simp [leafN]⟩
theorem Sm.merge {l m : List Int} {a b : Nd} (h : Sm l a) (k : Sm m b) : Sm (l ++ m) (mergeN a b) := by
  refine ⟨by rw [sumI_append, ← h.s, ← k.s]; rfl, ?_, fun x hx => ?_, ?_, fun x hx => ?_⟩
  · show min a.mn b.mn ∈ _
    rcases Int.le_total a.mn b.mn with e | e
    · rw [Int.min_eq_left e]; exact List.mem_append.2 (.inl h.mn)
    · rw [Int.min_eq_right e]; exact List.mem_append.2 (.inr k.mn)
  · show min a.mn b.mn ≤ x
    rcases List.mem_append.1 hx with hx | hx
    · have := h.low x hx; omega
    · have := k.low x hx; omega
  · show max a.mx b.mx ∈ _
    rcases Int.le_total a.mx b.mx with e | e
    · rw [Int.max_eq_right e]; exact List.mem_append.2 (.inr k.mx)
    · rw [Int.max_eq_left e]; exact List.mem_append.2 (.inl h.mx)
  · show x ≤ max a.mx b.mx
    rcases List.mem_append.1 hx with hx | hx
    · have := h.high x hx; omega
    · have := k.high x hx; omega
theorem Sm.perm {l m : List Int} {d : Nd} (h : Sm l d) (hp : l.Perm m) : Sm m d :=
  ⟨h.s.trans (sumI_perm hp), hp.mem_iff.1 h.mn, fun x hx => h.low x (hp.mem_iff.2 hx), hp.mem_iff.1 h.mx, fun x hx => h.high x (hp.mem_iff.2 hx)⟩
theorem Sm.unique {l : List Int} {d e : Nd} (h : Sm l d) (k : Sm l e) : d = e := by
  have h1 := h.s.trans k.s.symm
  have h2 := h.low _ k.mn
  have h3 := k.low _ h.mn
  have h4 := h.high _ k.mx
  have h5 := k.high _ h.mx
  cases d
  cases e
  simp only [Nd.mk.injEq]
  dsimp only at h1 h2 h3 h4 h5
  omega
/-- Which elements lie under a node. -/
def lvs (n : Nat) (i : Nat) : List Nat := if _h : 1 ≤ i ∧ i < n then lvs n (2 * i) ++ lvs n (2 * i + 1) else [i - n]
termination_by n - i
decreasing_by all_goals omega
theorem lvs_leaf {n i : Nat} (h : n ≤ i) : lvs n i = [i - n] := by rw [lvs, dif_neg (by omega)]
theorem lvs_node {n i : Nat} (h1 : 1 ≤ i) (h2 : i < n) : lvs n i = lvs n (2 * i) ++ lvs n (2 * i + 1) := by
  conv => lhs; rw [lvs, dif_pos ⟨h1, h2⟩]
theorem lvs_ind {n : Nat} {P : Nat → Prop} (hl : ∀ i, n ≤ i → i < 2 * n → P i) (hn : ∀ i, 1 ≤ i → i < n → P (2 * i) → P (2 * i + 1) → P i) : ∀ (m i : Nat), 2 * n - i ≤ m → 1 ≤ i → i < 2 * n → P i
  | 0, i, h, h1, h2 => absurd h (by omega)
  | m + 1, i, h, h1, h2 => by
    by_cases hi : i < n
    · exact hn i h1 hi (lvs_ind hl hn m (2 * i) (by omega) (by omega) (by omega)) (lvs_ind hl hn m (2 * i + 1) (by omega) (by omega) (by omega))
    · exact hl i (by omega) h2
theorem lvs_len {n i : Nat} (h1 : 1 ≤ i) (h2 : i < 2 * n) : (lvs n i).length ≤ 2 * n := by
  have key : (lvs n i).length * i ≤ 2 * n := by
    refine lvs_ind (P := fun i => (lvs n i).length * i ≤ 2 * n) (fun i h h' => ?_) (fun i h h' k1 k2 => ?_) (2 * n - i) i (Nat.le_refl _) h1 h2
    · rw [lvs_leaf h]; simp; omega
    · rw [lvs_node h h', List.length_append, Nat.add_mul]
      have e1 : (lvs n (2 * i)).length * (2 * i) = 2 * ((lvs n (2 * i)).length * i) := Nat.mul_left_comm _ _ _
      have e2 : (lvs n (2 * i + 1)).length * (2 * i + 1) = 2 * ((lvs n (2 * i + 1)).length * i) + (lvs n (2 * i + 1)).length := by rw [Nat.mul_add, Nat.mul_one, Nat.mul_left_comm]
      omega
  exact Nat.le_trans (Nat.le_mul_of_pos_right _ h1) key
theorem lvs_anc {n i : Nat} (h1 : 1 ≤ i) (h2 : i < 2 * n) : ∀ k ∈ lvs n i, ∃ d, i = (n + k) / 2 ^ d := by
  refine lvs_ind (P := fun i => ∀ k ∈ lvs n i, ∃ d, i = (n + k) / 2 ^ d) (fun i h h' k hk => ?_) (fun i h h' k1 k2 k hk => ?_) (2 * n - i) i (Nat.le_refl _) h1 h2
  · rw [lvs_leaf h] at hk
    simp at hk
    exact ⟨0, by rw [Nat.pow_zero, Nat.div_one]; omega⟩
  · rw [lvs_node h h'] at hk
    rcases List.mem_append.1 hk with hk | hk
    · obtain ⟨d, hd⟩ := k1 k hk
      exact ⟨d + 1, by rw [Nat.pow_succ, ← Nat.div_div_eq_div_mul, ← hd]; omega⟩
    · obtain ⟨d, hd⟩ := k2 k hk
      exact ⟨d + 1, by rw [Nat.pow_succ, ← Nat.div_div_eq_div_mul, ← hd]; omega⟩
/-- An element. -/
def elt (a : List Int) (k : Nat) : Int := (a[k]?).getD 0
theorem elt_bound {a : List Int} {q : Int} (h0 : 0 ≤ q) (h : ∀ x ∈ a, -q ≤ x ∧ x ≤ q) (k : Nat) : -q ≤ elt a k ∧ elt a k ≤ q := by
  unfold elt
  cases e : a[k]? with
  | none => simp; exact h0
  | some x => exact h x (List.mem_of_getElem? e)
/-- What node i tells is right. -/
def NdOk (a : List Int) (nd : List Nd) (i : Nat) : Prop := ∃ d, nd[i]? = some d ∧ Sm ((lvs a.length i).map (elt a)) d
def TreeN (a : List Int) (nd : List Nd) : Prop := nd.length = 2 * a.length ∧ ∀ i, 1 ≤ i → i < 2 * a.length → NdOk a nd i
theorem NdOk.leaf {a : List Int} {nd : List Nd} {k : Nat} {x : Int} (hk : a[k]? = some x) (h : nd[a.length + k]? = some (leafN x)) : NdOk a nd (a.length + k) := by
  refine ⟨_, h, ?_⟩
  rw [lvs_leaf (Nat.le_add_right _ _), Nat.add_sub_cancel_left]
  have : elt a k = x := by unfold elt; rw [hk]; rfl
  show Sm [elt a k] _
  rw [this]
  exact .leaf x
theorem NdOk.node {a : List Int} {nd : List Nd} {i : Nat} {d e : Nd} (h1 : 1 ≤ i) (h2 : i < a.length) (hd : nd[2 * i]? = some d) (he : nd[2 * i + 1]? = some e) (kd : NdOk a nd (2 * i)) (ke : NdOk a nd (2 * i + 1)) (hl : i < nd.length) : NdOk a (nd.set i (mergeN d e)) i := by
  obtain ⟨d', hd', sd⟩ := kd
  obtain ⟨e', he', se⟩ := ke
  rw [hd] at hd'
  rw [he] at he'
  cases hd'
  cases he'
  refine ⟨_, List.getElem?_set_self hl, ?_⟩
  rw [lvs_node h1 h2, List.map_append]
  exact sd.merge se
theorem NdOk.set {a : List Int} {nd : List Nd} {i j : Nat} {d : Nd} (h : NdOk a nd j) (hij : i ≠ j) : NdOk a (nd.set i d) j := by
  obtain ⟨d', hd', s⟩ := h
  exact ⟨d', by rw [List.getElem?_set_ne hij]; exact hd', s⟩
theorem NdOk.sum {a : List Int} {nd : List Nd} {i : Nat} {d : Nd} {q : Int} (h : NdOk a nd i) (hd : nd[i]? = some d) (h0 : 0 ≤ q) (hq : ∀ x ∈ a, -q ≤ x ∧ x ≤ q) (h1 : 1 ≤ i) (h2 : i < 2 * a.length) : -(q * (2 * a.length : Nat)) ≤ d.s ∧ d.s ≤ q * (2 * a.length : Nat) := by
  obtain ⟨d', hd', s⟩ := h
  rw [hd] at hd'
  cases hd'
  rw [s.s]
  have hb := sumI_bound (q := q) (l := (lvs a.length i).map (elt a)) fun x hx => by
    obtain ⟨k, _, rfl⟩ := List.mem_map.1 hx
    exact elt_bound h0 hq k
  rw [List.length_map] at hb
  have hl : ((lvs a.length i).length : Int) ≤ (2 * a.length : Nat) := Int.ofNat_le.2 (lvs_len h1 h2)
  have := Int.mul_le_mul_of_nonneg_left hl h0
  omega
theorem NdOk.least {a : List Int} {nd : List Nd} {i : Nat} {d : Nd} {q : Int} (h : NdOk a nd i) (hd : nd[i]? = some d) (h0 : 0 ≤ q) (hq : ∀ x ∈ a, -q ≤ x ∧ x ≤ q) : (-q ≤ d.mn ∧ d.mn ≤ q) ∧ (-q ≤ d.mx ∧ d.mx ≤ q) := by
  obtain ⟨d', hd', s⟩ := h
  rw [hd] at hd'
  cases hd'
  obtain ⟨k, _, e⟩ := List.mem_map.1 s.mn
  obtain ⟨k', _, e'⟩ := List.mem_map.1 s.mx
  rw [← e, ← e']
  exact ⟨elt_bound h0 hq k, elt_bound h0 hq k'⟩
/-- The nodes that are not yet told of the element k stored anew: from its d-th ancestor on. -/
def SetI (a : List Int) (nd : List Nd) (k d : Nat) : Prop := nd.length = 2 * a.length ∧ ∀ j, 1 ≤ j → j < 2 * a.length → (∀ e, d ≤ e → j ≠ (a.length + k) / 2 ^ e) → NdOk a nd j
theorem SetI.start {a : List Int} {nd : List Nd} {k : Nat} {x : Int} (h : TreeN a nd) (hk : k < a.length) : SetI (a.set k x) (nd.set (a.length + k) (leafN x)) k 1 := by
  refine ⟨by rw [List.length_set, List.length_set]; exact h.1, fun j h1 h2 hj => ?_⟩
  rw [List.length_set] at h2 hj
  by_cases e : j = a.length + k
  · subst e
    have := NdOk.leaf (a := a.set k x) (nd := nd.set (a.length + k) (leafN x)) (k := k) (x := x) (List.getElem?_set_self hk) (by rw [List.length_set]; exact List.getElem?_set_self (by rw [h.1]; omega))
    rw [List.length_set] at this
    exact this
  · obtain ⟨d, hd, s⟩ := h.2 j h1 h2
    refine ⟨d, by rw [List.getElem?_set_ne (fun h => e h.symm)]; exact hd, ?_⟩
    rw [List.length_set]
    have : (lvs a.length j).map (elt (a.set k x)) = (lvs a.length j).map (elt a) := List.map_congr_left fun z hz => by
      have hzk : z ≠ k := fun ez => by
        subst ez
        obtain ⟨d, hd⟩ := lvs_anc h1 h2 z hz
        cases d with
        | zero => rw [Nat.pow_zero, Nat.div_one] at hd; exact e hd
        | succ d => exact hj (d + 1) (by omega) hd
      unfold elt
      rw [List.getElem?_set_ne (Ne.symm hzk)]
    rw [this]
    exact s
theorem pow_anc_lt {n k d e : Nat} (_hi : 1 ≤ (n + k) / 2 ^ d) (he : d ≤ e) : (n + k) / 2 ^ e ≤ (n + k) / 2 ^ d := by
  obtain ⟨f, rfl⟩ := Nat.exists_eq_add_of_le he
  rw [Nat.pow_add, ← Nat.div_div_eq_div_mul]
  exact Nat.div_le_self _ _
theorem SetI.step {a : List Int} {nd : List Nd} {k d i : Nat} {x y : Nd} (h : SetI a nd k (d + 1)) (hk : k < a.length) (hi : i = (a.length + k) / 2 ^ (d + 1)) (h1 : 1 ≤ i) (hx : nd[2 * i]? = some x) (hy : nd[2 * i + 1]? = some y) : SetI a (nd.set i (mergeN x y)) k (d + 2) ∧ i < a.length ∧ NdOk a nd (2 * i) ∧ NdOk a nd (2 * i + 1) := by
  have hia : i < a.length := by
    have : i ≤ (a.length + k) / 2 := by
      rw [hi, Nat.pow_succ, Nat.mul_comm, ← Nat.div_div_eq_div_mul]
      exact Nat.div_le_self _ _
    omega
  have hne : ∀ j, i < j → ∀ e, d + 1 ≤ e → j ≠ (a.length + k) / 2 ^ e := fun j hj e he ej => by
    have := pow_anc_lt (n := a.length) (k := k) (d := d + 1) (e := e) (by rw [← hi]; exact h1) he
    omega
  have k1 := h.2 (2 * i) (by omega) (by omega) (hne _ (by omega))
  have k2 := h.2 (2 * i + 1) (by omega) (by omega) (hne _ (by omega))
  refine ⟨⟨by rw [List.length_set]; exact h.1, fun j j1 j2 hj => ?_⟩, hia, k1, k2⟩
  by_cases e : j = i
  · subst e
    exact NdOk.node h1 hia hx hy k1 k2 (by rw [h.1]; omega)
  · refine (h.2 j j1 j2 fun e' he' ej => ?_).set (Ne.symm e)
    rcases Nat.lt_or_ge (d + 1) e' with hlt | hge
    · exact hj e' hlt ej
    · have : e' = d + 1 := by omega
      subst this
      exact e (ej.trans hi.symm)
theorem SetI.done {a : List Int} {nd : List Nd} {k d : Nat} (h : SetI a nd k d) (hi : (a.length + k) / 2 ^ d = 0) : TreeN a nd := by
  refine ⟨h.1, fun i h1 h2 => h.2 i h1 h2 fun e he ei => ?_⟩
  obtain ⟨f, rfl⟩ := Nat.exists_eq_add_of_le he
  rw [Nat.pow_add, ← Nat.div_div_eq_div_mul, hi, Nat.zero_div] at ei
  omega
/-- A query: the elements L are gathered, those under the nodes lo..hi-1 are still to come. -/
def QI (n frm tto : Nat) (L : List Nat) (lo hi : Nat) : Prop := (L ++ (List.range' lo (hi - lo)).flatMap (lvs n)).Perm (List.range' frm (tto - frm)) ∧ 1 ≤ lo ∧ lo ≤ hi ∧ hi ≤ 2 * n
theorem leaves_range {n : Nat} : ∀ (m s : Nat), n ≤ s → (List.range' s m).flatMap (lvs n) = List.range' (s - n) m
  | 0, s, _ => by simp
  | m + 1, s, h => by
    rw [List.range'_succ, List.flatMap_cons, leaves_range m (s + 1) (by omega), lvs_leaf h, List.range'_succ, show s + 1 - n = s - n + 1 by omega]
    rfl
theorem half_range {n : Nat} : ∀ (m x : Nat), 1 ≤ x → x + m ≤ n → (List.range' (2 * x) (2 * m)).flatMap (lvs n) = (List.range' x m).flatMap (lvs n)
  | 0, x, _, _ => by simp
  | m + 1, x, h1, h2 => by
    rw [show 2 * (m + 1) = 2 * m + 1 + 1 by omega, List.range'_succ, List.range'_succ, List.flatMap_cons, List.flatMap_cons, show 2 * x + 1 + 1 = 2 * (x + 1) by omega, half_range m (x + 1) (by omega) (by omega), List.range'_succ, List.flatMap_cons, lvs_node h1 (by omega), List.append_assoc]
theorem QI.start {n frm tto : Nat} (h : frm < tto) (ht : tto ≤ n) : QI n frm tto [frm] (n + frm + 1) (n + tto) := by
  refine ⟨?_, by omega, by omega, by omega⟩
  rw [leaves_range _ _ (by omega), show n + frm + 1 - n = frm + 1 by omega, show n + tto - (n + frm + 1) = tto - frm - 1 by omega]
  have : List.range' frm (tto - frm) = frm :: List.range' (frm + 1) (tto - frm - 1) := by rw [show tto - frm = tto - frm - 1 + 1 by omega, List.range'_succ, Nat.add_sub_cancel]
  rw [this]
  exact .refl _
theorem QI.left {n frm tto lo hi : Nat} {L : List Nat} (h : QI n frm tto L lo hi) (hl : lo < hi) : QI n frm tto (L ++ lvs n lo) (lo + 1) hi := by
  obtain ⟨h1, h2, h3, h4⟩ := h
  refine ⟨?_, by omega, by omega, h4⟩
  rw [show hi - lo = hi - (lo + 1) + 1 by omega, List.range'_succ, List.flatMap_cons, ← List.append_assoc] at h1
  exact h1
theorem QI.right {n frm tto lo hi : Nat} {L : List Nat} (h : QI n frm tto L lo hi) (hl : lo < hi) : QI n frm tto (L ++ lvs n (hi - 1)) lo (hi - 1) := by
  obtain ⟨h1, h2, h3, h4⟩ := h
  refine ⟨?_, by omega, by omega, by omega⟩
  rw [show hi - lo = hi - 1 - lo + 1 by omega, List.range'_concat, List.flatMap_append, Nat.one_mul, show lo + (hi - 1 - lo) = hi - 1 by omega, List.flatMap_cons, List.flatMap_nil, List.append_nil] at h1
  refine .trans ?_ h1
  rw [List.append_assoc]
  exact List.Perm.append_left L List.perm_append_comm
theorem QI.half {n frm tto x y : Nat} {L : List Nat} (h : QI n frm tto L (2 * x) (2 * y)) : QI n frm tto L x y := by
  obtain ⟨h1, h2, h3, h4⟩ := h
  refine ⟨?_, by omega, by omega, by omega⟩
  rw [← Nat.mul_sub, half_range _ _ (by omega) (by omega)] at h1
  exact h1
theorem QI.done {n frm tto lo hi : Nat} {L : List Nat} (h : QI n frm tto L lo hi) (hl : hi ≤ lo) : L.Perm (List.range' frm (tto - frm)) := by
  obtain ⟨h1, _⟩ := h
  rw [show hi - lo = 0 by omega] at h1
  simpa using h1
theorem QI.len {n frm tto lo hi : Nat} {L : List Nat} (h : QI n frm tto L lo hi) : L.length ≤ tto - frm := by
  have := h.1.length_eq
  rw [List.length_append, List.length_range'] at this
  omega
/-- The elements frm..to-1. -/
def elts (a : List Int) (frm tto : Nat) : List Int := (List.range' frm (tto - frm)).map (elt a)
theorem elts_slice {a : List Int} {frm tto : Nat} (ht : tto ≤ a.length) : elts a frm tto = (a.drop frm).take (tto - frm) := by
  refine List.ext_getElem? fun i => ?_
  unfold elts
  rw [List.getElem?_map, List.getElem?_take, List.getElem?_drop]
  by_cases hi : i < tto - frm
  · rw [if_pos hi, List.getElem?_range' hi, Nat.one_mul]
    show some (elt a (frm + i)) = _
    have : frm + i < a.length := by omega
    unfold elt
    rw [List.getElem?_eq_getElem this]
    rfl
  · rw [if_neg hi, List.getElem?_eq_none (by rw [List.length_range']; omega)]
    rfl
theorem elts_one {a : List Int} {k : Nat} : elts a k (k + 1) = [elt a k] := by
  unfold elts
  rw [Nat.add_sub_cancel_left]
  rfl
theorem elts_split {a : List Int} {frm mid tto : Nat} (h1 : frm ≤ mid) (h2 : mid ≤ tto) : elts a frm tto = elts a frm mid ++ elts a mid tto := by
  unfold elts
  rw [← List.map_append, show tto - frm = (mid - frm) + (tto - mid) by omega, ← List.range'_append, Nat.one_mul, show frm + (mid - frm) = mid by omega]
end Go.Proofs.Ytfmbbfidjcgeiaa

namespace Go.Proofs.Ytfmbbfidjcgeiaa
open Go.RowKit Go.Lib

/-- A tuple with the days on whose windows it has an effect. -/
def extT (D : Int) (t : Tup) : List Tup := if pvalid t.lo t.hi = true ∧ t.lo < 1000000 then [⟨t.vals, t.lo, min (min t.hi 1000000 + D - 1) 1000000, t.lin⟩] else []
def extL (D : Int) (l : List Tup) : List Tup := l.flatMap (extT D)
def clampD (days : Int) : Int := min (max days 1) 1000000
theorem clampD_pos (d : Int) : 1 ≤ clampD d ∧ clampD d ≤ 1000000 := by unfold clampD; omega
theorem extL_snoc (D : Int) (l : List Tup) (k : Nat) (x : Tup) (h : l[k]? = some x) : extL D (l.take (k + 1)) = extL D (l.take k) ++ extT D x := by
  rw [take_get h, extL, List.flatMap_append]; simp [extL]
theorem extT_len (D : Int) (t : Tup) : (extT D t).length ≤ 1 := by unfold extT; split <;> simp
theorem extL_len (D : Int) : ∀ l : List Tup, (extL D l).length ≤ l.length
  | [] => by simp [extL]
  | t :: l => by
    have h1 := extL_len D l
    have h2 := extT_len D t
    unfold extL at *
    rw [List.flatMap_cons, List.length_append, List.length_cons]; omega
theorem extL_mem {D : Int} (hD : 1 ≤ D) {l : List Tup} {t : Tup} (h : t ∈ extL D l) : 0 ≤ t.lo ∧ t.lo < t.hi ∧ t.hi ≤ 1000000 := by
  obtain ⟨s, _, hs⟩ := List.mem_flatMap.1 h
  unfold extT at hs
  split at hs
  · rename_i hp
    have := pvalid_iff.1 hp.1
    simp at hs
    subst hs
    dsimp only
    omega
  · simp at hs
theorem extL_from {D : Int} {l : List Tup} {t : Tup} (h : t ∈ extL D l) : ∃ s ∈ l, s.vals = t.vals ∧ s.lin = t.lin ∧ s.lo = t.lo ∧ 0 ≤ s.lo ∧ s.lo < s.hi ∧ s.lo < 1000000 ∧ t.hi = min (min s.hi 1000000 + D - 1) 1000000 := by
  obtain ⟨s, hs, h⟩ := List.mem_flatMap.1 h
  unfold extT at h
  split at h
  · rename_i hp
    have := pvalid_iff.1 hp.1
    simp at h
    subst h
    exact ⟨s, hs, rfl, rfl, rfl, this.1, this.2.1, hp.2, rfl⟩
  · simp at h
/-- The points between which nothing changes. -/
def allT : Tup := ⟨[], 0, 1000000, []⟩
def mvPts (m : List Tup) : List Int := bnds (allT :: m)
theorem mvPts_mem {m : List Tup} {x : Int} : x ∈ mvPts m ↔ x = 0 ∨ x = 1000000 ∨ x ∈ allEnds m := by
  unfold mvPts
  rw [bnds_mem, show allEnds (allT :: m) = ends allT ++ allEnds m from List.flatMap_cons, List.mem_append, show ends allT = [0, 1000000] from rfl]
  simp [or_assoc]
theorem mvPts_asc (m : List Tup) : (mvPts m).Pairwise (· < ·) := bnds_asc _
theorem allEnds_range {m : List Tup} (h : ∀ t ∈ m, 0 ≤ t.lo ∧ t.lo < t.hi ∧ t.hi ≤ 1000000) {x : Int} (hx : x ∈ allEnds m) : 0 ≤ x ∧ x ≤ 1000000 := by
  obtain ⟨t, ht, hx⟩ := List.mem_flatMap.1 hx
  have := h t ht
  unfold ends at hx
  split at hx
  · simp at hx; omega
  · simp at hx
theorem mvPts_range {m : List Tup} (h : ∀ t ∈ m, 0 ≤ t.lo ∧ t.lo < t.hi ∧ t.hi ≤ 1000000) {x : Int} (hx : x ∈ mvPts m) : 0 ≤ x ∧ x ≤ 1000000 := by
  rcases mvPts_mem.1 hx with rfl | rfl | hx
  · omega
  · omega
  · exact allEnds_range h hx
/-- The definition's points. -/
def withinL (pts : List Int) (e : Int) : List Int := 0 :: (pts.filter fun p => decide (0 < p) && decide (p < e)) ++ [e]
theorem within_eq {m : List Tup} (h : ∀ t ∈ m, 0 ≤ t.lo ∧ t.lo < t.hi ∧ t.hi ≤ 1000000) : withinL (refBnd m) 1000000 = mvPts m := by
  refine asc_unique ?_ (mvPts_asc m) fun x => ?_
  · unfold withinL
    rw [List.cons_append, List.pairwise_cons]
    refine ⟨fun y hy => ?_, ?_⟩
    · rcases List.mem_append.1 hy with hy | hy
      · have := (List.mem_filter.1 hy).2; simp at this; exact this.1
      · simp at hy; omega
    · rw [List.pairwise_append]
      refine ⟨(refBnd_asc m).filter _, by simp, fun a ha b hb => ?_⟩
      have := (List.mem_filter.1 ha).2; simp at this
      simp at hb; omega
  · unfold withinL
    rw [List.cons_append, List.mem_cons, List.mem_append, List.mem_filter, refBnd_mem, mvPts_mem]
    simp only [List.mem_singleton, Bool.and_eq_true, decide_eq_true_eq]
    constructor
    · rintro (h | h | h)
      · exact .inl h
      · exact .inr (.inr h.1)
      · exact .inr (.inl h)
    · rintro (h | h | hx)
      · exact .inl h
      · exact .inr (.inr h)
      · have := allEnds_range h hx
        by_cases h0 : x = 0
        · exact .inl h0
        · by_cases h1 : x = 1000000
          · exact .inr (.inr h1)
          · exact .inr (.inl ⟨hx, by omega, by omega⟩)
/-- A step of a step function. -/
structure Stp where
  lo : Int
  hi : Int
  v : GVal
def putStep (out : List Stp) (s : Stp) : List Stp :=
  match out.getLast? with
  | some z => if cmpG z.v s.v = 0 then out.dropLast ++ [⟨z.lo, s.hi, z.v⟩] else out ++ [s]
  | none => out ++ [s]
def stepsTo (pts : List Int) (f : Int → GVal) : Nat → List Stp
  | 0 => []
  | i + 1 => putStep (stepsTo pts f i) ⟨pts[i]?.getD 0, pts[i + 1]?.getD 0, f (pts[i]?.getD 0)⟩
def stepsL (pts : List Int) (f : Int → GVal) : List Stp := stepsTo pts f (pts.length - 1)
theorem putStep_nil (s : Stp) : putStep [] s = [s] := rfl
theorem putStep_same {out : List Stp} {z s : Stp} (h : out.getLast? = some z) (e : cmpG z.v s.v = 0) : putStep out s = out.dropLast ++ [⟨z.lo, s.hi, z.v⟩] := by
  unfold putStep; rw [h]; exact if_pos e
theorem putStep_new {out : List Stp} {z s : Stp} (h : out.getLast? = some z) (e : cmpG z.v s.v ≠ 0) : putStep out s = out ++ [s] := by
  unfold putStep; rw [h]; exact if_neg e
theorem putStep_len (out : List Stp) (s : Stp) : (putStep out s).length ≤ out.length + 1 := by
  unfold putStep
  split
  · split
    · rw [List.length_append, List.length_dropLast, List.length_singleton]; omega
    · simp
  · simp
theorem stepsTo_len (pts : List Int) (f : Int → GVal) : ∀ i, (stepsTo pts f i).length ≤ i
  | 0 => Nat.le_refl _
  | i + 1 => Nat.le_trans (putStep_len _ _) (Nat.succ_le_succ (stepsTo_len pts f i))
/-- The value of a step function on a day. -/
def valueL : List Stp → Int → GVal
  | [], _ => ⟨-1, 0, ⟨#[]⟩⟩
  | s :: l, d => if s.lo ≤ d ∧ d < s.hi then s.v else valueL l d
/-- The steps lie one behind the other from a to b. -/
def Tiles : List Stp → Int → Int → Prop
  | [], a, b => a = b
  | s :: l, a, b => s.lo = a ∧ s.lo < s.hi ∧ Tiles l s.hi b
theorem Tiles.append : ∀ {l m : List Stp} {a b c : Int}, Tiles l a b → Tiles m b c → Tiles (l ++ m) a c
  | [], _, _, _, _, h, k => by cases h; exact k
  | s :: l, _, _, _, _, ⟨h1, h2, h3⟩, k => ⟨h1, h2, Tiles.append h3 k⟩
theorem Tiles.split : ∀ {l m : List Stp} {a c : Int}, Tiles (l ++ m) a c → ∃ b, Tiles l a b ∧ Tiles m b c
  | [], _, a, _, h => ⟨a, rfl, h⟩
  | _ :: _, _, _, _, ⟨h1, h2, h3⟩ => by
    obtain ⟨b, k1, k2⟩ := Tiles.split h3
    exact ⟨b, ⟨h1, h2, k1⟩, k2⟩
theorem Tiles.le : ∀ {l : List Stp} {a b : Int}, Tiles l a b → a ≤ b
  | [], _, _, h => by cases h; omega
  | s :: l, _, _, ⟨h1, h2, h3⟩ => by have := Tiles.le h3; omega
theorem Tiles.value : ∀ {l : List Stp} {a b : Int} {g : Int → GVal}, Tiles l a b → (∀ s ∈ l, ∀ d, s.lo ≤ d → d < s.hi → s.v = g d) → ∀ d, a ≤ d → d < b → valueL l d = g d
  | [], _, _, _, h, _, d, h1, h2 => by cases h; omega
  | s :: l, a, b, g, ⟨k1, k2, k3⟩, hg, d, h1, h2 => by
    unfold valueL
    by_cases h : s.lo ≤ d ∧ d < s.hi
    · rw [if_pos h]; exact hg s (List.mem_cons_self ..) d h.1 h.2
    · rw [if_neg h]; exact Tiles.value k3 (fun s hs => hg s (List.mem_cons_of_mem _ hs)) d (by omega) h2
/-- What steps from a to b tell of the days' values. -/
structure StepI (out : List Stp) (a b : Int) (g : Int → GVal) : Prop where
  tiles : Tiles out a b
  val : ∀ s ∈ out, ∀ d, s.lo ≤ d → d < s.hi → s.v = g d
  adj : ∀ i s t, out[i]? = some s → out[i + 1]? = some t → s.v ≠ t.v
theorem StepI.put {out : List Stp} {a b c : Int} {g : Int → GVal} {v : GVal} (h : StepI out a b g) (hbc : b < c) (hv : ∀ d, b ≤ d → d < c → v = g d) : StepI (putStep out ⟨b, c, v⟩) a c g := by
  have hnew : Tiles (out ++ [⟨b, c, v⟩]) a c := h.tiles.append ⟨rfl, hbc, rfl⟩
  have hval : ∀ s ∈ out ++ [⟨b, c, v⟩], ∀ d, s.lo ≤ d → d < s.hi → s.v = g d := fun s hs => by
    rcases List.mem_append.1 hs with hs | hs
    · exact h.val s hs
    · rw [List.mem_singleton] at hs; subst hs; exact hv
  cases e : out.getLast? with
  | none =>
    have : out = [] := List.getLast?_eq_none_iff.1 e
    subst this
    refine ⟨hnew, hval, fun i s t hs ht => ?_⟩
    rw [putStep_nil] at ht
    simp at ht
  | some z =>
    have hout : out = out.dropLast ++ [z] := by
      have h0 : out ≠ [] := fun e0 => by subst e0; simp at e
      rw [List.getLast?_eq_some_getLast h0] at e
      have := List.dropLast_concat_getLast h0
      rw [Option.some.inj e] at this
      exact this.symm
    by_cases hz : cmpG z.v v = 0
    · rw [putStep_same e hz]
      have hzv := cmpG_zero.1 hz
      rw [hout] at h
      obtain ⟨b', k1, k2, k3, k4⟩ := h.tiles.split
      have k4' : z.hi = b := k4
      refine ⟨k1.append ⟨k2, by dsimp only; omega, rfl⟩, fun s hs d h1 h2 => ?_, fun i s t hs ht => ?_⟩
      · rcases List.mem_append.1 hs with hs | hs
        · exact h.val s (List.mem_append.2 (.inl hs)) d h1 h2
        · rw [List.mem_singleton] at hs
          subst hs
          dsimp only at h1 h2 ⊢
          by_cases hd : d < b
          · exact h.val z (List.mem_append.2 (.inr (List.mem_singleton.2 rfl))) d h1 (by omega)
          · rw [hzv]; exact hv d (by omega) h2
      · rcases Nat.lt_or_ge (i + 1) out.dropLast.length with hi | hi
        · rw [List.getElem?_append_left (by omega)] at hs
          rw [List.getElem?_append_left hi] at ht
          exact h.adj i s t (by rw [List.getElem?_append_left (by omega)]; exact hs) (by rw [List.getElem?_append_left hi]; exact ht)
        · have hi2 := (List.getElem?_eq_some_iff.1 ht).1
          rw [List.length_append, List.length_singleton] at hi2
          have hi3 : i + 1 = out.dropLast.length := by omega
          rw [List.getElem?_append_left (by omega)] at hs
          rw [List.getElem?_append_right hi, hi3, Nat.sub_self] at ht
          simp at ht
          subst ht
          exact h.adj i s z (by rw [List.getElem?_append_left (by omega)]; exact hs) (by rw [List.getElem?_append_right hi, hi3, Nat.sub_self]; rfl)
    · rw [putStep_new e hz]
      refine ⟨hnew, hval, fun i s t hs ht => ?_⟩
      rcases Nat.lt_or_ge (i + 1) out.length with hi | hi
      · rw [List.getElem?_append_left (by omega)] at hs
        rw [List.getElem?_append_left hi] at ht
        exact h.adj i s t hs ht
      · have hi2 := (List.getElem?_eq_some_iff.1 ht).1
        rw [List.length_append, List.length_singleton] at hi2
        have hi3 : i + 1 = out.length := by omega
        rw [List.getElem?_append_left (by omega)] at hs
        rw [List.getElem?_append_right hi, hi3, Nat.sub_self] at ht
        simp at ht
        subst ht
        have : s = z := by
          rw [List.getLast?_eq_getElem?, ← hi3, Nat.add_sub_cancel] at e
          rw [e] at hs; cases hs; rfl
        subst this
        exact fun hv => hz (cmpG_zero.2 hv)
/-- The tuples that hold on a day. -/
def holdL (m : List Tup) (d : Int) : List Tup := m.filter fun x => pincl x.lo x.hi d
theorem pts_last {m : List Tup} (_h : ∀ t ∈ m, 0 ≤ t.lo ∧ t.lo < t.hi ∧ t.hi ≤ 1000000) {i : Nat} {x : Int} (hx : (mvPts m)[i]? = some x) (hl : x < 1000000) : i + 1 < (mvPts m).length := by
  obtain ⟨h1, h2⟩ := List.getElem?_eq_some_iff.1 hx
  refine Nat.lt_of_le_of_ne h1 fun e => ?_
  obtain ⟨j, hj, e2⟩ := List.getElem_of_mem (mvPts_mem.2 (.inr (.inl rfl)) : (1000000 : Int) ∈ mvPts m)
  have hji : j ≤ i := by omega
  rcases Nat.lt_or_eq_of_le hji with hlt | rfl
  · have := List.pairwise_iff_getElem.1 (mvPts_asc m) j i hj h1 hlt; omega
  · omega
theorem hold_same {m : List Tup} (h : ∀ t ∈ m, 0 ≤ t.lo ∧ t.lo < t.hi ∧ t.hi ≤ 1000000) {i : Nat} {x y d : Int} (hx : (mvPts m)[i]? = some x) (hy : (mvPts m)[i + 1]? = some y) (h1 : x ≤ d) (h2 : d < y) : holdL m x = holdL m d := by
  unfold holdL
  refine List.filter_congr fun t ht => ?_
  have hr := h t ht
  obtain ⟨p1, p2⟩ := List.getElem?_eq_some_iff.1 hx
  obtain ⟨q1, q2⟩ := List.getElem?_eq_some_iff.1 hy
  have key : ∀ z, z ∈ mvPts m → z ≤ x ∨ y ≤ z := fun z hz => by
    obtain ⟨j, hj, e⟩ := List.getElem_of_mem hz
    rcases Nat.lt_or_ge i j with hij | hij
    · right
      rcases Nat.lt_or_eq_of_le (show i + 1 ≤ j from hij) with hlt | rfl
      · have := List.pairwise_iff_getElem.1 (mvPts_asc m) (i + 1) j q1 hj hlt; omega
      · omega
    · left
      rcases Nat.lt_or_eq_of_le hij with hlt | rfl
      · have := List.pairwise_iff_getElem.1 (mvPts_asc m) j i hj p1 hlt; omega
      · omega
  have hv : pvalid t.lo t.hi = true := pvalid_iff.2 (by omega)
  have he : ends t = [t.lo, t.hi] := by unfold ends; rw [if_pos hv]
  have k1 := key t.lo (mvPts_mem.2 (.inr (.inr (List.mem_flatMap.2 ⟨t, ht, by rw [he]; simp⟩))))
  have k2 := key t.hi (mvPts_mem.2 (.inr (.inr (List.mem_flatMap.2 ⟨t, ht, by rw [he]; simp⟩))))
  rw [Bool.eq_iff_iff, pincl_iff, pincl_iff, and_iff_right hv, and_iff_right hv]
  omega
theorem mvPts_zero {m : List Tup} (h : ∀ t ∈ m, 0 ≤ t.lo ∧ t.lo < t.hi ∧ t.hi ≤ 1000000) : (mvPts m)[0]? = some 0 := by
  obtain ⟨j, hj, e⟩ := List.getElem_of_mem (mvPts_mem.2 (.inl rfl) : (0 : Int) ∈ mvPts m)
  have h0 : 0 < (mvPts m).length := by omega
  rw [List.getElem?_eq_getElem h0]
  have hr := mvPts_range h (List.getElem_mem h0)
  rcases Nat.eq_zero_or_pos j with rfl | hp
  · rw [e]
  · have := List.pairwise_iff_getElem.1 (mvPts_asc m) 0 j h0 hj hp
    omega
theorem mvPts_end {m : List Tup} (h : ∀ t ∈ m, 0 ≤ t.lo ∧ t.lo < t.hi ∧ t.hi ≤ 1000000) : (mvPts m)[(mvPts m).length - 1]? = some 1000000 := by
  obtain ⟨j, hj, e⟩ := List.getElem_of_mem (mvPts_mem.2 (.inr (.inl rfl)) : (1000000 : Int) ∈ mvPts m)
  have h0 : (mvPts m).length - 1 < (mvPts m).length := by omega
  rw [List.getElem?_eq_getElem h0]
  have hr := mvPts_range h (List.getElem_mem h0)
  rcases Nat.lt_or_eq_of_le (show j ≤ (mvPts m).length - 1 by omega) with hlt | rfl
  · have := List.pairwise_iff_getElem.1 (mvPts_asc m) j _ hj h0 hlt
    omega
  · rw [e]
theorem mv_steps {m : List Tup} (h : ∀ t ∈ m, 0 ≤ t.lo ∧ t.lo < t.hi ∧ t.hi ≤ 1000000) (F : List Tup → GVal) : ∀ i x, (mvPts m)[i]? = some x → StepI (stepsTo (mvPts m) (fun p => F (holdL m p)) i) 0 x (fun d => F (holdL m d))
  | 0, x, hx => by
    rw [mvPts_zero h] at hx
    cases hx
    exact ⟨rfl, by simp [stepsTo], by simp [stepsTo]⟩
  | i + 1, x, hx => by
    have hi := (List.getElem?_eq_some_iff.1 hx).1
    have hy : (mvPts m)[i]? = some (mvPts m)[i] := List.getElem?_eq_getElem (by omega)
    have ih := mv_steps h F i _ hy
    have hlt := List.pairwise_iff_getElem.1 (mvPts_asc m) i (i + 1) (by omega) hi (by omega)
    have hxe := (List.getElem?_eq_some_iff.1 hx).2
    have := ih.put (c := x) (v := F (holdL m (mvPts m)[i])) (by omega) fun d h1 h2 => by rw [hold_same h hy hx h1 h2]
    unfold stepsTo
    rw [hy, hx]
    exact this
/-- What Moving's steps tell. -/
theorem moving_steps {m : List Tup} (h : ∀ t ∈ m, 0 ≤ t.lo ∧ t.lo < t.hi ∧ t.hi ≤ 1000000) (F : List Tup → GVal) : StepI (stepsL (mvPts m) fun p => F (holdL m p)) 0 1000000 (fun d => F (holdL m d)) := mv_steps h F _ _ (mvPts_end h)
theorem moving_value {m : List Tup} (h : ∀ t ∈ m, 0 ≤ t.lo ∧ t.lo < t.hi ∧ t.hi ≤ 1000000) (F : List Tup → GVal) {d : Int} (h0 : 0 ≤ d) (h1 : d < 1000000) : valueL (stepsL (mvPts m) fun p => F (holdL m p)) d = F (holdL m d) :=
  (moving_steps h F).tiles.value (moving_steps h F).val d h0 h1
theorem stepsTo_congr {pts : List Int} {f g : Int → GVal} (h : ∀ p ∈ pts, f p = g p) : ∀ i, i < pts.length → stepsTo pts f i = stepsTo pts g i
  | 0, _ => rfl
  | i + 1, hi => by
    unfold stepsTo
    rw [stepsTo_congr h i (by omega), List.getElem?_eq_getElem (show i < pts.length by omega)]
    show putStep _ ⟨_, _, f pts[i]⟩ = putStep _ ⟨_, _, g pts[i]⟩
    rw [h _ (List.getElem_mem _)]
theorem stepsL_congr {pts : List Int} {f g : Int → GVal} (h : ∀ p ∈ pts, f p = g p) : stepsL pts f = stepsL pts g := by
  unfold stepsL
  rcases Nat.eq_zero_or_pos pts.length with e | e
  · rw [e]; rfl
  · exact stepsTo_congr h _ (by omega)

/-! Aggregates. -/
def intsL (vals : List GVal) : List Int := (vals.filter fun v => v.kind == 1).map GVal.n
def sumG (vals : List GVal) : GVal := if intsL vals = [] ∨ ¬ In64 (sumI (intsL vals)) then gnull else gint (sumI (intsL vals))
def nonNull (vals : List GVal) : List GVal := vals.filter fun v => v.kind != 0
/-- The least (sg = -1) or the greatest (sg = 1) of some values, found one by one. -/
def bestG (sg : Int) : GVal → List GVal → GVal
  | b, [] => b
  | b, v :: l => bestG sg (if cmpG v b = sg then v else b) l
def extG (sg : Int) : List GVal → GVal
  | [] => gnull
  | v :: l => bestG sg v l
def aggP (kind : Int) (vals : List GVal) : GVal :=
  if kind = 1 then gint vals.length else if kind = 2 then sumG vals else if kind = 3 then extG (-1) (nonNull vals) else if kind = 4 then extG 1 (nonNull vals) else gnull
theorem intsL_perm {a b : List GVal} (h : a.Perm b) : (intsL a).Perm (intsL b) := (h.filter _).map _
theorem sumG_perm {a b : List GVal} (h : a.Perm b) : sumG a = sumG b := by
  have := intsL_perm h
  unfold sumG
  rw [sumI_perm this]
  have h2 : intsL a = [] ↔ intsL b = [] := ⟨fun e => by rw [e] at this; exact this.nil_eq.symm, fun e => by rw [e] at this; exact this.eq_nil⟩
  by_cases e : intsL a = []
  · rw [if_pos (.inl e), if_pos (.inl (h2.1 e))]
  · by_cases e2 : In64 (sumI (intsL b))
    · rw [if_neg (by rintro (h | h); exact e h; exact h e2), if_neg (by rintro (h | h); exact e (h2.2 h); exact h e2)]
    · rw [if_pos (.inr e2), if_pos (.inr e2)]
/-- b is a least (greatest) one. -/
def IsBest (sg : Int) (b : GVal) (l : List GVal) : Prop := b ∈ l ∧ ∀ x ∈ l, cmpG x b ≠ sg
theorem IsBest.unique {sg : Int} (hs : sg = 1 ∨ sg = -1) {a b : GVal} {l : List GVal} (h : IsBest sg a l) (k : IsBest sg b l) : a = b := by
  have h1 := h.2 b k.1
  have h2 := k.2 a h.1
  rw [cmpG_swap a b] at h1
  have h3 := (sgn_val a b b).1
  refine cmpG_zero.1 ?_
  omega
theorem bestG_best {sg : Int} (hs : sg = 1 ∨ sg = -1) : ∀ (l : List GVal) (b : GVal) (m : List GVal), IsBest sg b m → IsBest sg (bestG sg b l) (m ++ l)
  | [], b, m, h => by rw [List.append_nil]; exact h
  | v :: l, b, m, h => by
    rw [show m ++ v :: l = (m ++ [v]) ++ l by simp]
    refine bestG_best hs l _ _ ?_
    by_cases e : cmpG v b = sg
    · rw [if_pos e]
      refine ⟨List.mem_append.2 (.inr (List.mem_singleton.2 rfl)), fun x hx => ?_⟩
      rcases List.mem_append.1 hx with hx | hx
      · have h1 := h.2 x hx
        have hc := sgn_val x v b
        unfold Sgn3 at hc
        have hd := sgn_val b v x
        unfold Sgn3 at hd
        rw [cmpG_swap v b, cmpG_swap x v, cmpG_swap x b] at hd
        intro e2
        rcases hs with rfl | rfl <;> omega
      · rw [List.mem_singleton] at hx; subst hx
        have := cmpG_zero.2 (rfl : x = x)
        omega
    · rw [if_neg e]
      refine ⟨List.mem_append.2 (.inl h.1), fun x hx => ?_⟩
      rcases List.mem_append.1 hx with hx | hx
      · exact h.2 x hx
      · rw [List.mem_singleton] at hx; subst hx; exact e
theorem extG_best {sg : Int} (hs : sg = 1 ∨ sg = -1) {l : List GVal} (hl : l ≠ []) : IsBest sg (extG sg l) l := by
  cases l with
  | nil => exact absurd rfl hl
  | cons v l =>
    refine bestG_best hs l v [v] ⟨List.mem_singleton.2 rfl, fun x hx => ?_⟩
    rw [List.mem_singleton] at hx; subst hx
    have := cmpG_zero.2 (rfl : x = x)
    omega
theorem extG_perm {sg : Int} (hs : sg = 1 ∨ sg = -1) {a b : List GVal} (h : a.Perm b) : extG sg a = extG sg b := by
  by_cases e : a = []
  · subst e; rw [h.nil_eq.symm]
  · have e2 : b ≠ [] := fun e2 => e (by subst e2; exact h.eq_nil)
    have h1 := extG_best hs e
    exact IsBest.unique hs ⟨h.mem_iff.1 h1.1, fun x hx => h1.2 x (h.mem_iff.2 hx)⟩ (extG_best hs e2)
theorem aggP_perm (kind : Int) {a b : List GVal} (h : a.Perm b) : aggP kind a = aggP kind b := by
  have h1 : (nonNull a).Perm (nonNull b) := h.filter _
  unfold aggP
  rw [h.length_eq, sumG_perm h, extG_perm (.inr rfl) h1, extG_perm (.inl rfl) h1]
/-- What the aggregate over some tuples is. -/
def aggT (e : List GExp) (arg kind : Int) (m : List Tup) : GVal := aggP kind (m.map fun t => evalG e arg t.vals)
/-- Moving's steps. -/
def movL (l : List Tup) (e : List GExp) (arg days kind : Int) : List Stp := stepsL (mvPts (extL (clampD days) l)) fun p => aggT e arg kind (holdL (extL (clampD days) l) p)
theorem movL_steps (l : List Tup) (e : List GExp) (arg days kind : Int) : StepI (movL l e arg days kind) 0 1000000 (fun d => aggT e arg kind (holdL (extL (clampD days) l) d)) := moving_steps (fun _ h => extL_mem (clampD_pos days).1 h) _
theorem movL_value (l : List Tup) (e : List GExp) (arg days kind : Int) {d : Int} (h0 : 0 ≤ d) (h1 : d < 1000000) : valueL (movL l e arg days kind) d = aggT e arg kind (holdL (extL (clampD days) l) d) := moving_value (fun _ h => extL_mem (clampD_pos days).1 h) _ h0 h1
end Go.Proofs.Ytfmbbfidjcgeiaa

namespace Go.Proofs.Ytfmbbfidjcgeiaa
open Go.RowKit Go.Lib

/-- A value in a box of its own. -/
def BoxV (W : World) (b : Nat) (v : GVal) : Prop := W.heap[b]? = some (.cells #[.int .i64 v.kind, .int .i64 v.n, .string v.s] 41)
theorem BoxV.cells {W : World} {b : Nat} {v : GVal} (h : BoxV W b v) : (W.cell? ⟨b, 0, none⟩ = some (.int .i64 v.kind) ∧ W.cell? ⟨b, 1, none⟩ = some (.int .i64 v.n) ∧ W.cell? ⟨b, 2, none⟩ = some (.string v.s)) ∧ W.frozen? ⟨b, 0, none⟩ = false ∧ W.frozen? ⟨b, 1, none⟩ = false ∧ W.frozen? ⟨b, 2, none⟩ = false := box_three h
theorem BoxV.below {W W' : World} {b : Nat} {v : GVal} (h : BoxV W b v) (hb : Below W.heap.size W W') : BoxV W' b v := box_kept h hb
theorem BoxV.lt {W : World} {b : Nat} {v : GVal} (h : BoxV W b v) : b < W.heap.size := (Array.getElem?_eq_some_iff.1 h).1
theorem BoxV.set {W : World} {b : Nat} {v : GVal} (h : BoxV W b v) (y : GVal) : BoxV (((W.setCell ⟨b, 0, none⟩ (.int .i64 y.kind)).setCell ⟨b, 1, none⟩ (.int .i64 y.n)).setCell ⟨b, 2, none⟩ (.string y.s)) b y := by
  have h1 := heap_setCell_same W b 0 _ _ (.int .i64 y.kind) h
  have h2 := heap_setCell_same _ b 1 _ _ (.int .i64 y.n) h1
  have h3 := heap_setCell_same _ b 2 _ _ (.string y.s) h2
  exact h3
theorem heap_set3 {W : World} {k c : Nat} {o : Obj} (h : W.heap[k]? = some o) (hc : k ≠ c) (v0 v1 v2 : Value) : (((W.setCell ⟨c, 0, none⟩ v0).setCell ⟨c, 1, none⟩ v1).setCell ⟨c, 2, none⟩ v2).heap[k]? = some o := by
  rw [heap_setCell_other _ _ _ _ hc, heap_setCell_other _ _ _ _ hc, heap_setCell_other _ _ _ _ hc]
  exact h
theorem below_box3 {w W : World} {q : Nat} {u1 u2 u3 : Value} (h : Below w.heap.size w W) (h1 : w.heap.size ≤ q) : Below w.heap.size w (((W.setCell ⟨q, 0, none⟩ u1).setCell ⟨q, 1, none⟩ u2).setCell ⟨q, 2, none⟩ u3) :=
  ((h.setCell h1 _).setCell h1 _).setCell h1 _
theorem cmpG_three (a b : GVal) : cmpG a b = -1 ∨ cmpG a b = 0 ∨ cmpG a b = 1 := (sgn_val a b b).1
set_option maxHeartbeats 8000000 in
set_option maxRecDepth 100000 in
theorem minF_any (v : Value) (x0 : GVal) (l : List GVal) (w : World) (hv : Sl valE w free v (x0 :: l)) :
    Calls Try.prog 54 #[v, .func (.func 36) #[] #[]] w fun e w' => e = .returned (aggG (bestG (-1) x0 l)) ∧ Below w.heap.size w w' := by
  obtain ⟨a, c, rfl⟩ := hv.shape
  have h63 := hv.1
  obtain ⟨n, hn⟩ : ∃ n, n = (x0 :: l).length := ⟨_, rfl⟩
  have HV := Lib.hid hv
  have HN := Lib.hid hn
  rw [← hn] at HV h63 ⊢
  have h1 : 1 ≤ n := by rw [hn]; simp
  have h1I : ¬ (n : Int) < 1 := by omega
  have h1N : 0 < n := h1
  obtain ⟨b0, o0, rfl, p0, p1, p2⟩ := gv_at3 HV.out (show (x0 :: l)[0]? = some x0 from rfl)
  rw [Nat.zero_mul, Nat.add_zero] at p0 p1 p2
  have hz0 : b0 < w.heap.size := World.block_lt_of_cell? _ _ p0
  have hB0 : Below w.heap.size w ((w.alloc (.cells #[.int .i64 0, .int .i64 0, .string ⟨#[]⟩] 41)).alloc (.cells #[.int .i64 x0.kind, .int .i64 x0.n, .string x0.s] 41)) := below_alloc_two _ _ _
  have hr0 : BoxV ((w.alloc (.cells #[.int .i64 0, .int .i64 0, .string ⟨#[]⟩] 41)).alloc (.cells #[.int .i64 x0.kind, .int .i64 x0.n, .string x0.s] 41)) w.heap.size gnull := heap_alloc_old' _ _ _
  have hm0 : BoxV ((w.alloc (.cells #[.int .i64 0, .int .i64 0, .string ⟨#[]⟩] 41)).alloc (.cells #[.int .i64 x0.kind, .int .i64 x0.n, .string x0.s] 41)) (w.heap.size + 1) x0 := heap_alloc_new' _ _ _
  obtain ⟨w1, hw1⟩ : ∃ w1, w1 = (w.alloc (.cells #[.int .i64 0, .int .i64 0, .string ⟨#[]⟩] 41)).alloc (.cells #[.int .i64 x0.kind, .int .i64 x0.n, .string x0.s] 41) := ⟨_, rfl⟩
  obtain ⟨res, hres⟩ : ∃ res, res = bestG (-1) x0 l := ⟨_, rfl⟩
  rw [← hres]
  have HRES := Lib.hid hres
  clear hv hn hres
  go_enter Try.func54, Try.ntmps54
  go_wp2_with fail
  rw [← hw1] at hB0 hr0 hm0 ⊢
  have HB0 := Lib.hid hB0
  have HR0 := Lib.hid hr0
  have HM0 := Lib.hid hm0
  clear p0 p1 p2 hz0 hB0 hr0 hm0 hw1
  go_loopw [6] (fun i wr => ∃ (k : Nat) (b : GVal), 1 ≤ k ∧ k ≤ n ∧ i = .int .i64 (k : Int) ∧ Hid (bestG (-1) b ((x0 :: l).drop k) = res) ∧ Hid (Below w.heap.size w wr) ∧ Hid (BoxV wr w.heap.size gnull) ∧ Hid (BoxV wr (w.heap.size + 1) b)) (fun i _ => n - (intOf i).toNat)
  case atStart => exact ⟨1, x0, Nat.le_refl _, h1, rfl, Lib.hid HRES.out.symm, HB0, HR0, HM0⟩
  case round =>
    obtain ⟨k, b, hk1, hk, rfl, HR, HB, HX, HM⟩ := hrel
    obtain ⟨wo, rfl⟩ : ∃ wo : World, wo = wr := ⟨_, rfl⟩
    by_cases hlt : k < n
    · obtain ⟨x, hx⟩ := lget_some (x0 :: l) k (by rw [← HN.out]; exact hlt)
      obtain ⟨_, _, e0, p0, p1, p2⟩ := gv_at3 (HV.out.below HB.out) hx
      cases e0
      obtain ⟨⟨q0, q1, q2⟩, _⟩ := HM.out.cells
      have HS : Hid (bestG (-1) (if cmpG x b = -1 then x else b) ((x0 :: l).drop (k + 1)) = res) := Lib.hid (by
        have h := HR.out
        rw [drop_get hx] at h
        exact h)
      have hth := cmpG_three x b
      have HC := fun W => Lib.hid (valCmp_any x b W)
      generalize cmpG x b = r at HS HC hth
      have hkI : (k : Int) < (n : Int) := by omega
      clear hx HR HM0 HR0 HB0
      obtain ⟨xk, xn, xs⟩ := x
      obtain ⟨bk, bn, bs⟩ := b
      unfold aggG at HC
      dsimp only at HC p0 p1 p2 q0 q1 q2
      have hB := HB.out
      go_upto_region 7 with fail
      go_region_held3 (fun W => Below w.heap.size w W ∧ W.cell? ⟨b0, o0 + k * 3, none⟩ = some (.int .i64 xk) ∧ W.cell? ⟨b0, o0 + k * 3 + 1, none⟩ = some (.int .i64 xn) ∧ W.cell? ⟨b0, o0 + k * 3 + 2, none⟩ = some (.string xs) ∧ W.cell? ⟨w.heap.size + 1, 0, none⟩ = some (.int .i64 bk) ∧ W.cell? ⟨w.heap.size + 1, 1, none⟩ = some (.int .i64 bn) ∧ W.cell? ⟨w.heap.size + 1, 2, none⟩ = some (.string bs) ∧ BoxV W w.heap.size gnull ∧ BoxV W (w.heap.size + 1) ⟨bk, bn, bs⟩)
        ((go_split_ands; refine ⟨?_, ?_, ?_, ?_, ?_, ?_, ?_, ?_, ?_⟩ <;> (first | with_reducible assumption | with_reducible exact Below.drew (by assumption) | with_reducible exact cell_drew (by assumption) | with_reducible exact below_keep (by assumption) (by assumption) | with_reducible exact cell_keep (by assumption) (by assumption) | exact HX.out | exact HM.out | exact BoxV.below (by with_reducible assumption) (by with_reducible assumption))))
        (first | ((with_reducible refine (HC _).out.mono ?_); rintro _ w2 ⟨rfl, hb⟩))
      go_split_ands
      have HBF : Hid (Below w.heap.size w w2) := Lib.hid (by with_reducible assumption)
      have HXF : Hid (BoxV w2 w.heap.size gnull) := Lib.hid (by with_reducible assumption)
      have HMF : Hid (BoxV w2 (w.heap.size + 1) ⟨bk, bn, bs⟩) := Lib.hid (by with_reducible assumption)
      have k0 : w2.cell? ⟨b0, o0 + k * 3, none⟩ = some (.int .i64 xk) := by with_reducible assumption
      have k1 : w2.cell? ⟨b0, o0 + k * 3 + 1, none⟩ = some (.int .i64 xn) := by with_reducible assumption
      have k2 : w2.cell? ⟨b0, o0 + k * 3 + 2, none⟩ = some (.string xs) := by with_reducible assumption
      clear hb hB p0 p1 p2 q0 q1 q2 HB HX HM HC
      by_cases hr : r < 0
      · have hre : r = -1 := by omega
        have HS' : Hid (bestG (-1) ⟨xk, xn, xs⟩ ((x0 :: l).drop (k + 1)) = res) := Lib.hid (by rw [← HS.out, if_pos hre])
        obtain ⟨⟨m0, m1, m2⟩, f0, f1, f2⟩ := HMF.out.cells
        have hbw : b0 < w2.heap.size := World.block_lt_of_cell? _ _ k0
        have HMN := Lib.hid (HMF.out.set ⟨xk, xn, xs⟩)
        have HXN := Lib.hid (heap_set3 HXF.out (show w.heap.size ≠ w.heap.size + 1 by omega) (.int .i64 xk) (.int .i64 xn) (.string xs))
        have HBN := Lib.hid (below_box3 (q := w.heap.size + 1) (u1 := .int .i64 xk) (u2 := .int .i64 xn) (u3 := .string xs) HBF.out (Nat.le_succ _))
        clear hre HS hth
        go_wp2_with fail
        go_roundw
        case rel => exact ⟨k + 1, ⟨xk, xn, xs⟩, by omega, by omega, by go_num, HS', HBN, HXN, HMN⟩
        case measure => simp [intOf]; omega
      · have hre : r ≠ -1 := by omega
        have HS' : Hid (bestG (-1) ⟨bk, bn, bs⟩ ((x0 :: l).drop (k + 1)) = res) := Lib.hid (by rw [← HS.out, if_neg hre])
        clear hre HS hth k0 k1 k2
        go_wp2_with fail
        go_roundw
        case rel => exact ⟨k + 1, ⟨bk, bn, bs⟩, by omega, by omega, by go_num, HS', HBF, HXF, HMF⟩
        case measure => simp [intOf]; omega
    · have HRB : Hid (b = res) := Lib.hid (by
        have h := HR.out
        rw [List.drop_of_length_le (by rw [← HN.out]; omega)] at h
        exact h)
      obtain ⟨⟨m0, m1, m2⟩, _⟩ := HM.out.cells
      obtain ⟨⟨r0, r1, r2⟩, f0, f1, f2⟩ := HX.out.cells
      have hzz : w.heap.size < wo.heap.size := HX.out.lt
      clear HR HX HM HM0 HR0 HB0
      go_wp2_with fail
      refine bodyPost_ret (v := aggG b) (by simp [aggG, gnull, results, Try.results54, go_sem, r0, r1, r2]) rfl ⟨by rw [HRB.out], ?_⟩
      exact below_box3 HB.out (Nat.le_refl _)
set_option maxHeartbeats 8000000 in
set_option maxRecDepth 100000 in
theorem maxF_any (v : Value) (x0 : GVal) (l : List GVal) (w : World) (hv : Sl valE w free v (x0 :: l)) :
    Calls Try.prog 55 #[v, .func (.func 36) #[] #[]] w fun e w' => e = .returned (aggG (bestG (1) x0 l)) ∧ Below w.heap.size w w' := by
  obtain ⟨a, c, rfl⟩ := hv.shape
  have h63 := hv.1
  obtain ⟨n, hn⟩ : ∃ n, n = (x0 :: l).length := ⟨_, rfl⟩
  have HV := Lib.hid hv
  have HN := Lib.hid hn
  rw [← hn] at HV h63 ⊢
  have h1 : 1 ≤ n := by rw [hn]; simp
  have h1I : ¬ (n : Int) < 1 := by omega
  have h1N : 0 < n := h1
  obtain ⟨b0, o0, rfl, p0, p1, p2⟩ := gv_at3 HV.out (show (x0 :: l)[0]? = some x0 from rfl)
  rw [Nat.zero_mul, Nat.add_zero] at p0 p1 p2
  have hz0 : b0 < w.heap.size := World.block_lt_of_cell? _ _ p0
  have hB0 : Below w.heap.size w ((w.alloc (.cells #[.int .i64 0, .int .i64 0, .string ⟨#[]⟩] 41)).alloc (.cells #[.int .i64 x0.kind, .int .i64 x0.n, .string x0.s] 41)) := below_alloc_two _ _ _
  have hr0 : BoxV ((w.alloc (.cells #[.int .i64 0, .int .i64 0, .string ⟨#[]⟩] 41)).alloc (.cells #[.int .i64 x0.kind, .int .i64 x0.n, .string x0.s] 41)) w.heap.size gnull := heap_alloc_old' _ _ _
  have hm0 : BoxV ((w.alloc (.cells #[.int .i64 0, .int .i64 0, .string ⟨#[]⟩] 41)).alloc (.cells #[.int .i64 x0.kind, .int .i64 x0.n, .string x0.s] 41)) (w.heap.size + 1) x0 := heap_alloc_new' _ _ _
  obtain ⟨w1, hw1⟩ : ∃ w1, w1 = (w.alloc (.cells #[.int .i64 0, .int .i64 0, .string ⟨#[]⟩] 41)).alloc (.cells #[.int .i64 x0.kind, .int .i64 x0.n, .string x0.s] 41) := ⟨_, rfl⟩
  obtain ⟨res, hres⟩ : ∃ res, res = bestG (1) x0 l := ⟨_, rfl⟩
  rw [← hres]
  have HRES := Lib.hid hres
  clear hv hn hres
  go_enter Try.func55, Try.ntmps55
  go_wp2_with fail
  rw [← hw1] at hB0 hr0 hm0 ⊢
  have HB0 := Lib.hid hB0
  have HR0 := Lib.hid hr0
  have HM0 := Lib.hid hm0
  clear p0 p1 p2 hz0 hB0 hr0 hm0 hw1
  go_loopw [6] (fun i wr => ∃ (k : Nat) (b : GVal), 1 ≤ k ∧ k ≤ n ∧ i = .int .i64 (k : Int) ∧ Hid (bestG (1) b ((x0 :: l).drop k) = res) ∧ Hid (Below w.heap.size w wr) ∧ Hid (BoxV wr w.heap.size gnull) ∧ Hid (BoxV wr (w.heap.size + 1) b)) (fun i _ => n - (intOf i).toNat)
  case atStart => exact ⟨1, x0, Nat.le_refl _, h1, rfl, Lib.hid HRES.out.symm, HB0, HR0, HM0⟩
  case round =>
    obtain ⟨k, b, hk1, hk, rfl, HR, HB, HX, HM⟩ := hrel
    obtain ⟨wo, rfl⟩ : ∃ wo : World, wo = wr := ⟨_, rfl⟩
    by_cases hlt : k < n
    · obtain ⟨x, hx⟩ := lget_some (x0 :: l) k (by rw [← HN.out]; exact hlt)
      obtain ⟨_, _, e0, p0, p1, p2⟩ := gv_at3 (HV.out.below HB.out) hx
      cases e0
      obtain ⟨⟨q0, q1, q2⟩, _⟩ := HM.out.cells
      have HS : Hid (bestG (1) (if cmpG x b = 1 then x else b) ((x0 :: l).drop (k + 1)) = res) := Lib.hid (by
        have h := HR.out
        rw [drop_get hx] at h
        exact h)
      have hth := cmpG_three x b
      have HC := fun W => Lib.hid (valCmp_any x b W)
      generalize cmpG x b = r at HS HC hth
      have hkI : (k : Int) < (n : Int) := by omega
      clear hx HR HM0 HR0 HB0
      obtain ⟨xk, xn, xs⟩ := x
      obtain ⟨bk, bn, bs⟩ := b
      unfold aggG at HC
      dsimp only at HC p0 p1 p2 q0 q1 q2
      have hB := HB.out
      go_upto_region 7 with fail
      go_region_held3 (fun W => Below w.heap.size w W ∧ W.cell? ⟨b0, o0 + k * 3, none⟩ = some (.int .i64 xk) ∧ W.cell? ⟨b0, o0 + k * 3 + 1, none⟩ = some (.int .i64 xn) ∧ W.cell? ⟨b0, o0 + k * 3 + 2, none⟩ = some (.string xs) ∧ W.cell? ⟨w.heap.size + 1, 0, none⟩ = some (.int .i64 bk) ∧ W.cell? ⟨w.heap.size + 1, 1, none⟩ = some (.int .i64 bn) ∧ W.cell? ⟨w.heap.size + 1, 2, none⟩ = some (.string bs) ∧ BoxV W w.heap.size gnull ∧ BoxV W (w.heap.size + 1) ⟨bk, bn, bs⟩)
        ((go_split_ands; refine ⟨?_, ?_, ?_, ?_, ?_, ?_, ?_, ?_, ?_⟩ <;> (first | with_reducible assumption | with_reducible exact Below.drew (by assumption) | with_reducible exact cell_drew (by assumption) | with_reducible exact below_keep (by assumption) (by assumption) | with_reducible exact cell_keep (by assumption) (by assumption) | exact HX.out | exact HM.out | exact BoxV.below (by with_reducible assumption) (by with_reducible assumption))))
        (first | ((with_reducible refine (HC _).out.mono ?_); rintro _ w2 ⟨rfl, hb⟩))
      go_split_ands
      have HBF : Hid (Below w.heap.size w w2) := Lib.hid (by with_reducible assumption)
      have HXF : Hid (BoxV w2 w.heap.size gnull) := Lib.hid (by with_reducible assumption)
      have HMF : Hid (BoxV w2 (w.heap.size + 1) ⟨bk, bn, bs⟩) := Lib.hid (by with_reducible assumption)
      have k0 : w2.cell? ⟨b0, o0 + k * 3, none⟩ = some (.int .i64 xk) := by with_reducible assumption
      have k1 : w2.cell? ⟨b0, o0 + k * 3 + 1, none⟩ = some (.int .i64 xn) := by with_reducible assumption
      have k2 : w2.cell? ⟨b0, o0 + k * 3 + 2, none⟩ = some (.string xs) := by with_reducible assumption
      clear hb hB p0 p1 p2 q0 q1 q2 HB HX HM HC
      by_cases hr : r > 0
      · have hre : r = 1 := by omega
        have HS' : Hid (bestG (1) ⟨xk, xn, xs⟩ ((x0 :: l).drop (k + 1)) = res) := Lib.hid (by rw [← HS.out, if_pos hre])
        obtain ⟨⟨m0, m1, m2⟩, f0, f1, f2⟩ := HMF.out.cells
        have hbw : b0 < w2.heap.size := World.block_lt_of_cell? _ _ k0
        have HMN := Lib.hid (HMF.out.set ⟨xk, xn, xs⟩)
        have HXN := Lib.hid (heap_set3 HXF.out (show w.heap.size ≠ w.heap.size + 1 by omega) (.int .i64 xk) (.int .i64 xn) (.string xs))
        have HBN := Lib.hid (below_box3 (q := w.heap.size + 1) (u1 := .int .i64 xk) (u2 := .int .i64 xn) (u3 := .string xs) HBF.out (Nat.le_succ _))
        clear hre HS hth
        go_wp2_with fail
        go_roundw
        case rel => exact ⟨k + 1, ⟨xk, xn, xs⟩, by omega, by omega, by go_num, HS', HBN, HXN, HMN⟩
        case measure => simp [intOf]; omega
      · have hre : r ≠ 1 := by omega
        have HS' : Hid (bestG (1) ⟨bk, bn, bs⟩ ((x0 :: l).drop (k + 1)) = res) := Lib.hid (by rw [← HS.out, if_neg hre])
        clear hre HS hth k0 k1 k2
        go_wp2_with fail
        go_roundw
        case rel => exact ⟨k + 1, ⟨bk, bn, bs⟩, by omega, by omega, by go_num, HS', HBF, HXF, HMF⟩
        case measure => simp [intOf]; omega
    · have HRB : Hid (b = res) := Lib.hid (by
        have h := HR.out
        rw [List.drop_of_length_le (by rw [← HN.out]; omega)] at h
        exact h)
      obtain ⟨⟨m0, m1, m2⟩, _⟩ := HM.out.cells
      obtain ⟨⟨r0, r1, r2⟩, f0, f1, f2⟩ := HX.out.cells
      have hzz : w.heap.size < wo.heap.size := HX.out.lt
      clear HR HX HM HM0 HR0 HB0
      go_wp2_with fail
      refine bodyPost_ret (v := aggG b) (by simp [aggG, gnull, results, Try.results55, go_sem, r0, r1, r2]) rfl ⟨by rw [HRB.out], ?_⟩
      exact below_box3 HB.out (Nat.le_refl _)
end Go.Proofs.Ytfmbbfidjcgeiaa

namespace Go.Proofs.Ytfmbbfidjcgeiaa
open Go

section
variable {P : Program} {md : Region.Mode} {ops : Array Oper} {Q : Exit → Act → World → Prop} {S : World → Prop}
theorem take_n {i : Nat} {d : Option Tmp} {fuel : Nat} {listed : Array Bool} {a : Act} {w : World} (hi : (ops[i]?).map (·.dst) = some d)
    (hw : (ops[i]?).map (fun o => Region.wanted o (yielded ops a.tmps)) = some false)
    (hs : Region.noSelect ops = true) (hf : Region.free md ops listed i = true) (hr : (Region.ready md ops listed).contains i = true)
    (hQ : ∀ c a w, Q (.panic c) (a.put d undef) w → Q (.panic c) a w) (hS : S w)
    (h : wpAnyH P md ops Q S fuel (listed.setIfInBounds i true) (a.put d undef) w) : wpAnyH P md ops Q S (fuel + 1) listed a w := by
  cases ho : ops[i]? with
  | none => rw [ho] at hi; cases hi
  | some o =>
    rw [ho] at hi hw
    simp only [Option.map_some, Option.some.injEq] at hi hw
    subst hi
    exact wpAnyH_take ho hs hf hr hQ (Or.inr ⟨hw, rfl⟩) hS h
theorem take_y {i : Nat} {d : Option Tmp} {v : Value} {fuel : Nat} {listed : Array Bool} {a : Act} {w : World} (hi : (ops[i]?).map (·.dst) = some d)
    (hw : (ops[i]?).map (fun o => Region.wanted o (yielded ops a.tmps)) = some true)
    (hs : Region.noSelect ops = true) (hf : Region.free md ops listed i = true) (hr : (Region.ready md ops listed).contains i = true)
    (hQ : ∀ c a w, Q (.panic c) (a.put d v) w → Q (.panic c) a w) (hS : S w)
    (hy : ∀ o, ops[i]? = some o → ∀ w, S w → (execOp a.eval o).run P w = .ok (.value v) w)
    (h : wpAnyH P md ops Q S fuel (listed.setIfInBounds i true) (a.put d v) w) : wpAnyH P md ops Q S (fuel + 1) listed a w := by
  cases ho : ops[i]? with
  | none => rw [ho] at hi; cases hi
  | some o =>
    rw [ho] at hi hw
    simp only [Option.map_some, Option.some.injEq] at hi hw
    subst hi
    exact wpAnyH_take ho hs hf hr hQ (Or.inl ⟨hw, hy o ho⟩) hS h
end
end Go.Proofs.Ytfmbbfidjcgeiaa

namespace Go.Proofs.Ytfmbbfidjcgeiaa
open Go.RowKit Go.Lib

/-- The two halves of a sum. -/
def hiW (s : Int) : Int := s / 18446744073709551616
def loW (s : Int) : Int := s % 18446744073709551616
def wideV (s : Int) : Value := .agg #[.int .i64 (hiW s), .int .u64 (loW s)]
def nodeV (d : Nd) : Value := .agg #[.int .i64 (hiW d.s), .int .u64 (loW d.s), .int .i64 d.mn, .int .i64 d.mx]
theorem u64_wrap (n : Int) : IntKind.u64.wrap n = loW n := by unfold loW; simp [IntKind.wrap, IntKind.bits, IntKind.signed]
theorem hiW_small {n : Int} (hn : -9223372036854775808 ≤ n ∧ n ≤ 9223372036854775807) : n / 9223372036854775808 = hiW n := by unfold hiW; omega
set_option maxHeartbeats 1000000 in
theorem widen_any (n : Int) (hn : -9223372036854775808 ≤ n ∧ n ≤ 9223372036854775807) (w : World) : Calls Try.prog 46 #[.int .i64 n] w fun e w' => e = .returned (wideV n) ∧ Below w.heap.size w w' := by
  have H1 := Lib.hid (u64_wrap n)
  have H2 := Lib.hid (hiW_small hn)
  go_enter Try.func46, Try.ntmps46
  go_wp2_with fail
  refine bodyPost_ret (v := wideV n) ?_ rfl ⟨rfl, ?_⟩
  · unfold wideV
    rw [← H1.out, ← H2.out]
    simp [results, Try.results46, go_sem]
  · exact below_alloc _ _
theorem run_bits_add (x y : Nat) (w : World) : (callFunc 69 #[.int .u64 (x : Int), .int .u64 (y : Int), .int .u64 0]).run Try.prog w = .ok (.value (.tuple #[.int .u64 (loW (x + y)), .int .u64 (hiW (x + y))])) w := by
  have h := run_callFunc_extern (P := Try.prog) Try.func69 (by kernel_rfl) (by kernel_rfl) (by kernel_rfl) (e := add64Entry) (by kernel_rfl) #[.int .u64 (x : Int), .int .u64 (y : Int), .int .u64 0] w
  rw [run_add64 (x : Int) (y : Int) 0 (by omega) (by omega) (by omega) (by omega)] at h
  simp only [Result.andThen, Int.add_zero] at h
  exact h
theorem lo_plus (s t : Int) : loW (loW s + loW t) = loW (s + t) := by unfold loW; omega
theorem hi_plus (s t : Int) : hiW s + hiW t + hiW (loW s + loW t) = hiW (s + t) := by unfold loW hiW; omega
/-- A sum that fits by far. -/
def Wok (s : Int) : Prop := -1329227995784915872903807060280344576 ≤ s ∧ s ≤ 1329227995784915872903807060280344576
theorem hi_bound {s : Int} (h : Wok s) : -72057594037927936 ≤ hiW s ∧ hiW s ≤ 72057594037927936 := by unfold Wok at h; unfold hiW; omega
theorem hi_carry (s t : Int) : hiW (loW s + loW t) = 0 ∨ hiW (loW s + loW t) = 1 := by unfold loW hiW; omega
set_option maxHeartbeats 1000000 in
theorem plus_any (s t : Int) (hs : Wok s) (ht : Wok t) (w : World) : Calls Try.prog 47 #[wideV s, wideV t] w fun e w' => e = .returned (wideV (s + t)) ∧ Below w.heap.size w w' := by
  unfold wideV
  have hbs := hi_bound hs
  have hbt := hi_bound ht
  have hcc := hi_carry s t
  have hsum := hi_plus s t
  have hlo := lo_plus s t
  obtain ⟨a, ha⟩ : ∃ a, a = hiW s := ⟨_, rfl⟩
  obtain ⟨b, hb⟩ : ∃ b, b = hiW t := ⟨_, rfl⟩
  obtain ⟨x, hx⟩ : ∃ x : Nat, (x : Int) = loW s := ⟨(loW s).toNat, by unfold loW; omega⟩
  obtain ⟨y, hy⟩ : ∃ y : Nat, (y : Int) = loW t := ⟨(loW t).toNat, by unfold loW; omega⟩
  have HRN := fun w => run_bits_add x y w
  obtain ⟨c, hc⟩ : ∃ c, c = hiW ((x : Int) + y) := ⟨_, rfl⟩
  obtain ⟨l, hl⟩ : ∃ l, l = loW ((x : Int) + y) := ⟨_, rfl⟩
  rw [← hc, ← hl] at HRN
  rw [← hx, ← hy] at hcc hsum hlo ⊢
  rw [← hc] at hcc hsum
  rw [← hl] at hlo
  rw [← ha, ← hb] at hsum ⊢
  rw [← ha] at hbs
  rw [← hb] at hbt
  generalize hiW (s + t) = u at hsum ⊢
  generalize loW (s + t) = v at hlo ⊢
  have HRU := Lib.hid HRN
  clear HRN
  subst hlo
  subst hsum
  have h1 : -9223372036854775808 ≤ a + b ∧ a + b ≤ 9223372036854775807 := by omega
  have h2 : 0 ≤ c := by omega
  have h3 : c ≤ 1 := by omega
  clear hs ht ha hb hx hy hc hl hcc
  go_enter Try.func47, Try.ntmps47
  go_wp2_with (simp only [HRU.out])
  clear HRU
  refine bodyPost_ret (v := .agg #[.int .i64 (a + b + c), .int .u64 l]) (by simp [results, Try.results47, go_sem]) rfl ⟨rfl, ?_⟩
  exact ((below_alloc _ _).alloc (by simp) _).alloc (by simp; omega) _
def In64B (n : Int) : Bool := decide (-9223372036854775808 ≤ n) && decide (n ≤ 9223372036854775807)
theorem wide_back (s : Int) : IntKind.i64.wrap (loW s) = s - 18446744073709551616 * (if loW s < 9223372036854775808 then hiW s else hiW s + 1) := by
  rw [IntKind.wrap_i64]; unfold loW hiW; split <;> omega
set_option maxHeartbeats 1000000 in
/-- The low half as a number, and whether the sum is that number. -/
theorem int64_any (s : Int) (w : World) : Calls Try.prog 31 #[wideV s] w fun e w' => ∃ n : Int, e = .returned (.tuple #[.int .i64 n, .bool (In64B s)]) ∧ (In64B s = true → n = s) ∧ Below w.heap.size w w' := by
  unfold wideV
  obtain ⟨a, ha⟩ : ∃ a, a = hiW s := ⟨_, rfl⟩
  obtain ⟨x, hx⟩ : ∃ x, x = loW s := ⟨_, rfl⟩
  obtain ⟨n, hn⟩ : ∃ n, n = IntKind.i64.wrap (loW s) := ⟨_, rfl⟩
  have HQ : Hid ((a == n / 9223372036854775808) = In64B s) := Lib.hid (by
    rw [hn, IntKind.wrap_i64, ha]
    unfold loW hiW In64B
    rw [Bool.eq_iff_iff]
    simp
    omega)
  have HN : Hid (In64B s = true → n = s) := Lib.hid (fun h => by
    rw [hn, IntKind.wrap_i64]
    unfold loW
    unfold In64B at h
    simp at h
    omega)
  have HW : Hid (wrap64 x = n) := Lib.hid (by rw [hx, hn, IntKind.wrap_i64]; unfold wrap64; rfl)
  rw [← ha, ← hx]
  generalize In64B s = q at HQ HN ⊢
  clear ha hx hn
  go_enter Try.func31, Try.ntmps31
  go_wp2_with fail
  rw [HW.out]
  go_region
  all_goals (
    go_wp2_with fail
    go_ret2
    refine ⟨n, ?_, HN.out, (below_alloc _ _).drew⟩
    first | rfl | (rw [HQ.out]; rfl))
theorem In64B_iff {s : Int} : In64B s = true ↔ -9223372036854775808 ≤ s ∧ s ≤ 9223372036854775807 := by unfold In64B; simp
theorem box4 {w : World} {g : Nat} {x y z u : Value} {e : TypeId} (h : w.heap[g]? = some (.cells #[x, y, z, u] e (0, 0))) :
    (w.cell? ⟨g, 0, none⟩ = some x ∧ w.cell? ⟨g, 1, none⟩ = some y ∧ w.cell? ⟨g, 2, none⟩ = some z ∧ w.cell? ⟨g, 3, none⟩ = some u) ∧
    w.frozen? ⟨g, 0, none⟩ = false ∧ w.frozen? ⟨g, 1, none⟩ = false ∧ w.frozen? ⟨g, 2, none⟩ = false ∧ w.frozen? ⟨g, 3, none⟩ = false := by
  refine ⟨⟨?_, ?_, ?_, ?_⟩, ?_, ?_, ?_, ?_⟩ <;> simp [World.cell?, World.frozen?, h]
set_option maxHeartbeats 1000000 in
theorem leaf_any (n : Int) (hn : -9223372036854775808 ≤ n ∧ n ≤ 9223372036854775807) (w : World) : Calls Try.prog 28 #[.int .i64 n] w fun e w' => e = .returned (nodeV (leafN n)) ∧ Below w.heap.size w w' := by
  have HW := fun W => Lib.hid (widen_any n hn W)
  unfold nodeV leafN wideV at *
  dsimp only at *
  generalize hiW n = a at *
  generalize loW n = b at *
  have hbx := heap_alloc_new w (.cells #[.int .i64 0, .int .u64 0, .int .i64 0, .int .i64 0] 74)
  go_enter Try.func28, Try.ntmps28
  go_wp2_with fail
  refine (HW _).out.mono ?_
  rintro _ w1 ⟨rfl, hb⟩
  obtain ⟨⟨x0, x1, x2, x3⟩, y0, y1, y2, y3⟩ := box4 (box_kept hbx hb)
  have HB := Lib.hid (below_alloc2' hb)
  have hz : w.heap.size < w1.heap.size := World.block_lt_of_cell? _ _ x0
  clear hb HW hbx
  go_wp2_with fail
  refine bodyPost_ret (v := .agg #[.int .i64 a, .int .u64 b, .int .i64 n, .int .i64 n]) (by simp [results, Try.results28, go_sem, x0, x1, x2, x3]) rfl ⟨rfl, ?_⟩
  exact below_set4 HB.out (Nat.le_refl _) (Nat.le_refl _) (Nat.le_refl _) (Nat.le_refl _)
theorem heap3_0 (w : World) (c1 c2 c3 : Obj) : (((w.alloc c1).alloc c2).alloc c3).heap[w.heap.size]? = some c1 :=
  (Below.heap_alloc _ _ _ (by simp; omega)).trans ((Below.heap_alloc _ _ _ (by simp)).trans (heap_alloc_new w c1))
theorem heap3_1 (w : World) (c1 c2 c3 : Obj) : (((w.alloc c1).alloc c2).alloc c3).heap[w.heap.size + 1]? = some c2 :=
  (Below.heap_alloc _ _ _ (by simp)).trans (by simpa using heap_alloc_new (w.alloc c1) c2)
theorem heap3_2 (w : World) (c1 c2 c3 : Obj) : (((w.alloc c1).alloc c2).alloc c3).heap[w.heap.size + 1 + 1]? = some c3 := by
  simpa using heap_alloc_new ((w.alloc c1).alloc c2) c3
theorem bel3 (w : World) (c1 c2 c3 : Obj) : Below w.heap.size w (((w.alloc c1).alloc c2).alloc c3) := ((below_alloc _ _).alloc (by simp) _).alloc (by simp; omega) _
set_option maxHeartbeats 4000000 in
theorem merge_node (x y : Nd) (hx : Wok x.s) (hy : Wok y.s) (w : World) : Calls Try.prog 29 #[nodeV x, nodeV y] w fun e w' => e = .returned (nodeV (mergeN x y)) ∧ Below w.heap.size w w' := by
  obtain ⟨s, m, n⟩ := x
  obtain ⟨t, m', n'⟩ := y
  have HW := fun W => Lib.hid (plus_any s t hx hy W)
  unfold nodeV mergeN wideV at *
  dsimp only at *
  generalize hiW s = a at *
  generalize loW s = b at *
  generalize hiW t = a' at *
  generalize loW t = b' at *
  generalize hiW (s + t) = c at *
  generalize loW (s + t) = d at *
  have g0 := heap3_0 w (.cells #[.int .i64 a, .int .u64 b, .int .i64 m, .int .i64 n] 74) (.cells #[.int .i64 a', .int .u64 b', .int .i64 m', .int .i64 n'] 74) (.cells #[.int .i64 0, .int .u64 0, .int .i64 0, .int .i64 0] 74)
  have g1 := heap3_1 w (.cells #[.int .i64 a, .int .u64 b, .int .i64 m, .int .i64 n] 74) (.cells #[.int .i64 a', .int .u64 b', .int .i64 m', .int .i64 n'] 74) (.cells #[.int .i64 0, .int .u64 0, .int .i64 0, .int .i64 0] 74)
  have g2 := heap3_2 w (.cells #[.int .i64 a, .int .u64 b, .int .i64 m, .int .i64 n] 74) (.cells #[.int .i64 a', .int .u64 b', .int .i64 m', .int .i64 n'] 74) (.cells #[.int .i64 0, .int .u64 0, .int .i64 0, .int .i64 0] 74)
  have hB := bel3 w (.cells #[.int .i64 a, .int .u64 b, .int .i64 m, .int .i64 n] 74) (.cells #[.int .i64 a', .int .u64 b', .int .i64 m', .int .i64 n'] 74) (.cells #[.int .i64 0, .int .u64 0, .int .i64 0, .int .i64 0] 74)
  clear hx hy
  go_enter Try.func29, Try.ntmps29
  go_upto_region 1 with fail
  obtain ⟨w0, hw0⟩ : ∃ w0, w0 = ((w.alloc (.cells #[.int .i64 a, .int .u64 b, .int .i64 m, .int .i64 n] 74)).alloc (.cells #[.int .i64 a', .int .u64 b', .int .i64 m', .int .i64 n'] 74)).alloc (.cells #[.int .i64 0, .int .u64 0, .int .i64 0, .int .i64 0] 74) := ⟨_, rfl⟩
  rw [← hw0] at g0 g1 g2 hB ⊢
  obtain ⟨⟨x0, x1, x2, x3⟩, _⟩ := box4 g0
  obtain ⟨⟨y0, y1, y2, y3⟩, _⟩ := box4 g1
  obtain ⟨⟨z0, z1, z2, z3⟩, u0, u1, u2, u3⟩ := box4 g2
  clear hw0 g0 g1 g2
  have v0 := vAt_of z0
  have v1 := vAt_of z1
  have v2 := vAt_of z2
  have v3 := vAt_of z3
  clear z0 z1 z2 z3
  refine wp_region_held_drew (S := fun W => Below w.heap.size w W ∧ W.cell? ⟨w.heap.size, 0, none⟩ = some (.int .i64 a) ∧ W.cell? ⟨w.heap.size, 1, none⟩ = some (.int .u64 b) ∧ W.cell? ⟨w.heap.size, 2, none⟩ = some (.int .i64 m) ∧ W.cell? ⟨w.heap.size, 3, none⟩ = some (.int .i64 n) ∧ W.cell? ⟨w.heap.size + 1, 0, none⟩ = some (.int .i64 a') ∧ W.cell? ⟨w.heap.size + 1, 1, none⟩ = some (.int .u64 b') ∧ W.cell? ⟨w.heap.size + 1, 2, none⟩ = some (.int .i64 m') ∧ W.cell? ⟨w.heap.size + 1, 3, none⟩ = some (.int .i64 n') ∧ W.cell? ⟨w.heap.size + 1 + 1, 0, none⟩ = some (vAt W ⟨w.heap.size + 1 + 1, 0, none⟩) ∧ W.cell? ⟨w.heap.size + 1 + 1, 1, none⟩ = some (vAt W ⟨w.heap.size + 1 + 1, 1, none⟩) ∧ W.cell? ⟨w.heap.size + 1 + 1, 2, none⟩ = some (vAt W ⟨w.heap.size + 1 + 1, 2, none⟩) ∧ W.cell? ⟨w.heap.size + 1 + 1, 3, none⟩ = some (vAt W ⟨w.heap.size + 1 + 1, 3, none⟩) ∧ W.frozen? ⟨w.heap.size + 1 + 1, 0, none⟩ = false ∧ W.frozen? ⟨w.heap.size + 1 + 1, 1, none⟩ = false ∧ W.frozen? ⟨w.heap.size + 1 + 1, 2, none⟩ = false ∧ W.frozen? ⟨w.heap.size + 1 + 1, 3, none⟩ = false) (by kernel_rfl) ?_ (fun hHeld => ?_)
  · (try dsimp only)
    (go_split_ands; refine ⟨?_, ?_, ?_, ?_, ?_, ?_, ?_, ?_, ?_, ?_, ?_, ?_, ?_, ?_, ?_, ?_, ?_⟩ <;> (first | with_reducible assumption | with_reducible exact Below.drew (by assumption) | with_reducible exact vAt_drew (by assumption) | with_reducible exact cell_drew (by assumption) | with_reducible exact frozen_drew (by assumption) | with_reducible exact below_keep (by assumption) (by assumption) | with_reducible exact vAt_keep (by assumption) (by assumption) | with_reducible exact cell_keep (by assumption) (by assumption) | with_reducible exact frozen_keep (by assumption) (by assumption) (by assumption) | exact below_set4 (by with_reducible assumption) (by dsimp only; omega) (by dsimp only; omega) (by dsimp only; omega) (by dsimp only; omega) | exact vAt_set4 (by with_reducible assumption) | exact cell_set4 (by with_reducible assumption) (by dsimp only; omega) rfl rfl rfl | exact frozen_set4 (by with_reducible assumption)))
  refine take_y (i := 0) (d := some 5) (v := ?_) rfl rfl (by kernel_rfl) (by kernel_rfl) (by kernel_rfl) (fun _ _ _ h => h) (by assumption) ?_ ?_
  rotate_left
  · intro oi ho
    simp only [List.getElem?_toArray, List.getElem?_cons_zero, Option.some.injEq] at ho
    subst ho
    intro w hSw
    (try dsimp only at hSw)
    go_simp
    (try with_reducible rfl)
  (try simp only [Act.put, List.setIfInBounds_toArray, List.set_cons_zero, List.set_cons_succ])
  refine take_y (i := 1) (d := some 6) (v := ?_) rfl rfl (by kernel_rfl) (by kernel_rfl) (by kernel_rfl) (fun _ _ _ h => h) (by assumption) ?_ ?_
  rotate_left
  · intro oi ho
    simp only [List.getElem?_toArray, List.getElem?_cons_succ, List.getElem?_cons_zero, Option.some.injEq] at ho
    subst ho
    intro w hSw
    (try dsimp only at hSw)
    go_simp
    (try with_reducible rfl)
  (try simp only [Act.put, List.setIfInBounds_toArray, List.set_cons_zero, List.set_cons_succ])
  refine take_y (i := 2) (d := some 7) (v := ?_) rfl rfl (by kernel_rfl) (by kernel_rfl) (by kernel_rfl) (fun _ _ _ h => h) (by assumption) ?_ ?_
  rotate_left
  · intro oi ho
    simp only [List.getElem?_toArray, List.getElem?_cons_succ, List.getElem?_cons_zero, Option.some.injEq] at ho
    subst ho
    intro w hSw
    (try dsimp only at hSw)
    go_simp
    (try with_reducible rfl)
  (try simp only [Act.put, List.setIfInBounds_toArray, List.set_cons_zero, List.set_cons_succ])
  refine take_y (i := 3) (d := some 8) (v := ?_) rfl rfl (by kernel_rfl) (by kernel_rfl) (by kernel_rfl) (fun _ _ _ h => h) (by assumption) ?_ ?_
  rotate_left
  · intro oi ho
    simp only [List.getElem?_toArray, List.getElem?_cons_succ, List.getElem?_cons_zero, Option.some.injEq] at ho
    subst ho
    intro w hSw
    (try dsimp only at hSw)
    go_simp
    (try with_reducible rfl)
  (try simp only [Act.put, List.setIfInBounds_toArray, List.set_cons_zero, List.set_cons_succ])
  refine take_y (i := 5) (d := some 10) (v := ?_) rfl rfl (by kernel_rfl) (by kernel_rfl) (by kernel_rfl) (fun _ _ _ h => h) (by assumption) ?_ ?_
  rotate_left
  · intro oi ho
    simp only [List.getElem?_toArray, List.getElem?_cons_succ, List.getElem?_cons_zero, Option.some.injEq] at ho
    subst ho
    intro w hSw
    (try dsimp only at hSw)
    go_simp
    (try with_reducible rfl)
  (try simp only [Act.put, List.setIfInBounds_toArray, List.set_cons_zero, List.set_cons_succ])
  refine take_y (i := 6) (d := some 11) (v := ?_) rfl rfl (by kernel_rfl) (by kernel_rfl) (by kernel_rfl) (fun _ _ _ h => h) (by assumption) ?_ ?_
  rotate_left
  · intro oi ho
    simp only [List.getElem?_toArray, List.getElem?_cons_succ, List.getElem?_cons_zero, Option.some.injEq] at ho
    subst ho
    intro w hSw
    (try dsimp only at hSw)
    go_simp
    (try with_reducible rfl)
  (try simp only [Act.put, List.setIfInBounds_toArray, List.set_cons_zero, List.set_cons_succ])
  refine take_y (i := 7) (d := some 12) (v := ?_) rfl rfl (by kernel_rfl) (by kernel_rfl) (by kernel_rfl) (fun _ _ _ h => h) (by assumption) ?_ ?_
  rotate_left
  · intro oi ho
    simp only [List.getElem?_toArray, List.getElem?_cons_succ, List.getElem?_cons_zero, Option.some.injEq] at ho
    subst ho
    intro w hSw
    (try dsimp only at hSw)
    go_simp
    (try with_reducible rfl)
  (try simp only [Act.put, List.setIfInBounds_toArray, List.set_cons_zero, List.set_cons_succ])
  refine take_y (i := 8) (d := some 13) (v := ?_) rfl rfl (by kernel_rfl) (by kernel_rfl) (by kernel_rfl) (fun _ _ _ h => h) (by assumption) ?_ ?_
  rotate_left
  · intro oi ho
    simp only [List.getElem?_toArray, List.getElem?_cons_succ, List.getElem?_cons_zero, Option.some.injEq] at ho
    subst ho
    intro w hSw
    (try dsimp only at hSw)
    go_simp
    (try with_reducible rfl)
  (try simp only [Act.put, List.setIfInBounds_toArray, List.set_cons_zero, List.set_cons_succ])
  refine take_y (i := 9) (d := some 14) (v := ?_) rfl rfl (by kernel_rfl) (by kernel_rfl) (by kernel_rfl) (fun _ _ _ h => h) (by assumption) ?_ ?_
  rotate_left
  · intro oi ho
    simp only [List.getElem?_toArray, List.getElem?_cons_succ, List.getElem?_cons_zero, Option.some.injEq] at ho
    subst ho
    intro w hSw
    (try dsimp only at hSw)
    go_simp
    (try with_reducible rfl)
  (try simp only [Act.put, List.setIfInBounds_toArray, List.set_cons_zero, List.set_cons_succ])
  refine take_y (i := 10) (d := some 15) (v := ?_) rfl rfl (by kernel_rfl) (by kernel_rfl) (by kernel_rfl) (fun _ _ _ h => h) (by assumption) ?_ ?_
  rotate_left
  · intro oi ho
    simp only [List.getElem?_toArray, List.getElem?_cons_succ, List.getElem?_cons_zero, Option.some.injEq] at ho
    subst ho
    intro w hSw
    (try dsimp only at hSw)
    go_simp
    (try with_reducible rfl)
  (try simp only [Act.put, List.setIfInBounds_toArray, List.set_cons_zero, List.set_cons_succ])
  refine take_y (i := 11) (d := some 16) (v := ?_) rfl rfl (by kernel_rfl) (by kernel_rfl) (by kernel_rfl) (fun _ _ _ h => h) (by assumption) ?_ ?_
  rotate_left
  · intro oi ho
    simp only [List.getElem?_toArray, List.getElem?_cons_succ, List.getElem?_cons_zero, Option.some.injEq] at ho
    subst ho
    intro w hSw
    (try dsimp only at hSw)
    go_simp
    (try with_reducible rfl)
  (try simp only [Act.put, List.setIfInBounds_toArray, List.set_cons_zero, List.set_cons_succ])
  refine take_y (i := 12) (d := some 17) (v := ?_) rfl rfl (by kernel_rfl) (by kernel_rfl) (by kernel_rfl) (fun _ _ _ h => h) (by assumption) ?_ ?_
  rotate_left
  · intro oi ho
    simp only [List.getElem?_toArray, List.getElem?_cons_succ, List.getElem?_cons_zero, Option.some.injEq] at ho
    subst ho
    intro w hSw
    (try dsimp only at hSw)
    go_simp
    (try with_reducible rfl)
  (try simp only [Act.put, List.setIfInBounds_toArray, List.set_cons_zero, List.set_cons_succ])
  refine take_y (i := 13) (d := some 18) (v := ?_) rfl rfl (by kernel_rfl) (by kernel_rfl) (by kernel_rfl) (fun _ _ _ h => h) (by assumption) ?_ ?_
  rotate_left
  · intro oi ho
    simp only [List.getElem?_toArray, List.getElem?_cons_succ, List.getElem?_cons_zero, Option.some.injEq] at ho
    subst ho
    intro w hSw
    (try dsimp only at hSw)
    go_simp
    (try with_reducible rfl)
  (try simp only [Act.put, List.setIfInBounds_toArray, List.set_cons_zero, List.set_cons_succ])
  refine take_y (i := 14) (d := some 19) (v := ?_) rfl rfl (by kernel_rfl) (by kernel_rfl) (by kernel_rfl) (fun _ _ _ h => h) (by assumption) ?_ ?_
  rotate_left
  · intro oi ho
    simp only [List.getElem?_toArray, List.getElem?_cons_succ, List.getElem?_cons_zero, Option.some.injEq] at ho
    subst ho
    intro w hSw
    (try dsimp only at hSw)
    go_simp
    (try with_reducible rfl)
  (try simp only [Act.put, List.setIfInBounds_toArray, List.set_cons_zero, List.set_cons_succ])
  refine wpAnyH_ready (rs := [4]) (by kernel_rfl) (by simp) ?_
  refine AllReadyH.cons rfl (fun K hK => ?_) AllReadyH.nil
  go_simp
  refine (HW _).out.mono ?_
  rintro _ w2 ⟨rfl, hb⟩
  refine hK.out _ _ ?_ (fun hHeld => ?_)
  · (try dsimp only)
    (go_split_ands; refine ⟨?_, ?_, ?_, ?_, ?_, ?_, ?_, ?_, ?_, ?_, ?_, ?_, ?_, ?_, ?_, ?_, ?_⟩ <;> (first | with_reducible assumption | with_reducible exact Below.drew (by assumption) | with_reducible exact vAt_drew (by assumption) | with_reducible exact cell_drew (by assumption) | with_reducible exact frozen_drew (by assumption) | with_reducible exact below_keep (by assumption) (by assumption) | with_reducible exact vAt_keep (by assumption) (by assumption) | with_reducible exact cell_keep (by assumption) (by assumption) | with_reducible exact frozen_keep (by assumption) (by assumption) (by assumption) | exact below_set4 (by with_reducible assumption) (by dsimp only; omega) (by dsimp only; omega) (by dsimp only; omega) (by dsimp only; omega) | exact vAt_set4 (by with_reducible assumption) | exact cell_set4 (by with_reducible assumption) (by dsimp only; omega) rfl rfl rfl | exact frozen_set4 (by with_reducible assumption)))
  clear hK K
  (try simp only [Act.put, List.setIfInBounds_toArray, List.set_cons_zero, List.set_cons_succ])
  refine take_y (i := 15) (d := some 20) (v := ?_) rfl rfl (by kernel_rfl) (by kernel_rfl) (by kernel_rfl) (fun _ _ _ h => h) (by assumption) ?_ ?_
  rotate_left
  · intro oi ho
    simp only [List.getElem?_toArray, List.getElem?_cons_succ, List.getElem?_cons_zero, Option.some.injEq] at ho
    subst ho
    intro w hSw
    (try dsimp only at hSw)
    go_simp
    (try with_reducible rfl)
  (try simp only [Act.put, List.setIfInBounds_toArray, List.set_cons_zero, List.set_cons_succ])
  refine wpAnyH_ready (rs := [16]) (by kernel_rfl) (by simp) ?_
  refine AllReadyH.cons rfl (fun K hK => ?_) AllReadyH.nil
  go_simp
  refine hK.out _ _ ?_ (fun hHeld => ?_)
  · (try dsimp only)
    (obtain ⟨k0, k1, k2, k3, k4, k5, k6, k7, k8, k9, k10, k11, k12, k13, k14, k15, k16⟩ := hHeld; exact ⟨below_set4 k0 (by dsimp only; omega) (by dsimp only; omega) (by dsimp only; omega) (by dsimp only; omega), cell_set4 k1 (by dsimp only; omega) rfl rfl rfl, cell_set4 k2 (by dsimp only; omega) rfl rfl rfl, cell_set4 k3 (by dsimp only; omega) rfl rfl rfl, cell_set4 k4 (by dsimp only; omega) rfl rfl rfl, cell_set4 k5 (by dsimp only; omega) rfl rfl rfl, cell_set4 k6 (by dsimp only; omega) rfl rfl rfl, cell_set4 k7 (by dsimp only; omega) rfl rfl rfl, cell_set4 k8 (by dsimp only; omega) rfl rfl rfl, vAt_set4 k9, vAt_set4 k10, vAt_set4 k11, vAt_set4 k12, frozen_set4 k13, frozen_set4 k14, frozen_set4 k15, frozen_set4 k16⟩)
  clear hK K
  (try simp only [Act.put, List.setIfInBounds_toArray, List.set_cons_zero, List.set_cons_succ])
  refine wpAnyH_done (by kernel_rfl) ?_ _
  have hBF : Below w.heap.size w w2 := below_keep (by assumption : Below w.heap.size w w0.drew ∧ _).1 hb
  have q0 : w2.cell? ⟨w.heap.size + 1 + 1, 0, none⟩ = some (vAt w2 ⟨w.heap.size + 1 + 1, 0, none⟩) := vAt_keep (W := w0.drew) hb v0
  have q1 : w2.cell? ⟨w.heap.size + 1 + 1, 1, none⟩ = some (vAt w2 ⟨w.heap.size + 1 + 1, 1, none⟩) := vAt_keep (W := w0.drew) hb v1
  have q2 : w2.cell? ⟨w.heap.size + 1 + 1, 2, none⟩ = some (vAt w2 ⟨w.heap.size + 1 + 1, 2, none⟩) := vAt_keep (W := w0.drew) hb v2
  have q3 : w2.cell? ⟨w.heap.size + 1 + 1, 3, none⟩ = some (vAt w2 ⟨w.heap.size + 1 + 1, 3, none⟩) := vAt_keep (W := w0.drew) hb v3
  have HBF := Lib.hid hBF
  have e1 : (if m' < m then m' else m) = min m m' := by split <;> omega
  have e2 : (if n < n' then n' else n) = max n n' := by split <;> omega
  (try rw [e1])
  (try rw [e2])
  obtain ⟨mn, hmn⟩ : ∃ mn, mn = min m m' := ⟨_, rfl⟩
  obtain ⟨mx, hmx⟩ : ∃ mx, mx = max n n' := ⟨_, rfl⟩
  rw [← hmn, ← hmx]
  have HM : Hid (Ending.returned (.agg #[.int .i64 c, .int .u64 d, .int .i64 mn, .int .i64 mx]) = .returned (.agg #[.int .i64 c, .int .u64 d, .int .i64 (min m m'), .int .i64 (max n n')])) := by show _ = _; rw [hmn, hmx]
  clear hHeld hmn hmx e1 e2 hBF HW v0 v1 v2 v3 hb
  go_wp2_with fail
  refine bodyPost_ret (v := .agg #[.int .i64 c, .int .u64 d, .int .i64 mn, .int .i64 mx]) (by simp [results, Try.results29, go_sem, q0, q1, q2, q3]) rfl ⟨HM.out, ?_⟩
  exact below_set4 HBF.out (by dsimp only; omega) (by dsimp only; omega) (by dsimp only; omega) (by dsimp only; omega)
end Go.Proofs.Ytfmbbfidjcgeiaa

namespace Go.Proofs.Ytfmbbfidjcgeiaa
open Go.RowKit Go.Lib

/-- A wide sum in a box of its own. -/
def BoxW (W : World) (b : Nat) (s : Int) : Prop := W.heap[b]? = some (.cells #[.int .i64 (hiW s), .int .u64 (loW s)] 72)
theorem BoxW.cells {W : World} {b : Nat} {s : Int} (h : BoxW W b s) : (W.cell? ⟨b, 0, none⟩ = some (.int .i64 (hiW s)) ∧ W.cell? ⟨b, 1, none⟩ = some (.int .u64 (loW s))) ∧ W.frozen? ⟨b, 0, none⟩ = false ∧ W.frozen? ⟨b, 1, none⟩ = false := by
  refine ⟨⟨?_, ?_⟩, ?_, ?_⟩ <;> simp [World.cell?, World.frozen?, show W.heap[b]? = _ from h]
theorem BoxW.below {W W' : World} {b : Nat} {s : Int} (h : BoxW W b s) (hb : Below W.heap.size W W') : BoxW W' b s := box_kept h hb
theorem BoxW.set {W : World} {b : Nat} {s : Int} (h : BoxW W b s) (t : Int) : BoxW ((W.setCell ⟨b, 0, none⟩ (.int .i64 (hiW t))).setCell ⟨b, 1, none⟩ (.int .u64 (loW t))) b t := by
  have h1 := heap_setCell_same W b 0 _ _ (.int .i64 (hiW t)) h
  have h2 := heap_setCell_same _ b 1 _ _ (.int .u64 (loW t)) h1
  exact h2
theorem heap_set2 {W : World} {k c : Nat} {o : Obj} (h : W.heap[k]? = some o) (hc : k ≠ c) (v0 v1 : Value) : ((W.setCell ⟨c, 0, none⟩ v0).setCell ⟨c, 1, none⟩ v1).heap[k]? = some o := by
  rw [heap_setCell_other _ _ _ _ hc, heap_setCell_other _ _ _ _ hc]
  exact h
theorem wide0 : hiW 0 = 0 ∧ loW 0 = 0 := by unfold hiW loW; simp
structure SumS (w : World) (vb : Nat) (x : GVal) (W : World) : Prop where
  below : Below w.heap.size w W
  val : BoxV W vb x
  res : BoxV W w.heap.size gnull
  tot : ∃ s, BoxW W (w.heap.size + 1) s
theorem SumS.keep {w W W' : World} {vb : Nat} {x : GVal} (h : SumS w vb x W) (hb : Below W.heap.size W W') : SumS w vb x W' := by
  obtain ⟨s, hs⟩ := h.tot
  exact ⟨below_keep h.below hb, h.val.below hb, h.res.below hb, s, hs.below hb⟩
theorem SumS.set {w W : World} {vb : Nat} {x : GVal} (h : SumS w vb x W) (hv : w.heap.size + 1 < vb) (t : Int) : SumS w vb x ((W.setCell ⟨w.heap.size + 1, 0, none⟩ (.int .i64 (hiW t))).setCell ⟨w.heap.size + 1, 1, none⟩ (.int .u64 (loW t))) := by
  obtain ⟨s, hs⟩ := h.tot
  exact ⟨(h.below.setCell (Nat.le_succ _) _).setCell (Nat.le_succ _) _, heap_set2 h.val (by omega) _ _, heap_set2 h.res (by omega) _ _, t, hs.set t⟩
theorem intsL_snoc {l : List GVal} {k : Nat} {x : GVal} (h : l[k]? = some x) : intsL (l.take (k + 1)) = intsL (l.take k) ++ if x.kind = 1 then [x.n] else [] := by
  unfold intsL
  rw [take_get h, List.filter_append, List.map_append]
  by_cases e : x.kind = 1
  · rw [if_pos e]; simp [e]
  · rw [if_neg e]; simp [e]
theorem intsL_wok {l : List GVal} (h : ∀ x ∈ l, In64 x.n) (hl : l.length ≤ 100000) : Wok (sumI (intsL l)) := by
  have hb := sumI_bound (q := 9223372036854775808) (l := intsL l) fun x hx => by
    unfold intsL at hx
    obtain ⟨y, hy, rfl⟩ := List.mem_map.1 hx
    have := h y (List.mem_filter.1 hy).1
    unfold In64 at this
    omega
  have h2 : (intsL l).length ≤ l.length := by unfold intsL; rw [List.length_map]; exact List.length_filter_le _ _
  have hl' : ((intsL l).length : Int) ≤ 100000 := by omega
  have hb2 : 9223372036854775808 * ((intsL l).length : Int) ≤ 9223372036854775808 * 100000 := Int.mul_le_mul_of_nonneg_left hl' (by omega)
  unfold Wok
  omega
theorem take_wok {l : List GVal} (h : ∀ x ∈ l, In64 x.n) (hl : l.length ≤ 100000) (k : Nat) : Wok (sumI (intsL (l.take k))) := intsL_wok (fun x hx => h x (List.mem_of_mem_take hx)) (by rw [List.length_take]; omega)
theorem sumG_none {l : List GVal} (h : intsL l = []) : sumG l = gnull := by unfold sumG; rw [if_pos (.inl h)]
theorem sumG_far {l : List GVal} (h : In64B (sumI (intsL l)) = false) : sumG l = gnull := by
  unfold sumG; rw [if_pos (.inr (fun h2 => by rw [In64B_iff.2 h2] at h; cases h))]
theorem sumG_fits {l : List GVal} (h : intsL l ≠ []) (h2 : In64B (sumI (intsL l)) = true) : sumG l = gint (sumI (intsL l)) := by
  unfold sumG; rw [if_neg]
  rintro (e | e)
  · exact h e
  · exact e (In64B_iff.1 h2)
set_option maxHeartbeats 8000000 in
set_option maxRecDepth 100000 in
theorem asum_any (v : Value) (l : List GVal) (w : World) (hv : Sl valE w free v l) (h64 : ∀ x ∈ l, In64 x.n) (hl : l.length ≤ 100000) :
    Calls Try.prog 53 #[v] w fun e w' => e = .returned (aggG (sumG l)) ∧ Below w.heap.size w w' := by
  obtain ⟨a, c, rfl⟩ := hv.shape
  have h63 := hv.1
  obtain ⟨n, hn⟩ : ∃ n, n = l.length := ⟨_, rfl⟩
  have HV := Lib.hid hv
  have HN := Lib.hid hn
  have H64 := Lib.hid h64
  have HTW := Lib.hid (take_wok h64 hl)
  rw [← hn] at HV h63 hl ⊢
  have hB0 : Below w.heap.size w ((w.alloc (.cells #[.int .i64 0, .int .i64 0, .string ⟨#[]⟩] 41)).alloc (.cells #[.int .i64 0, .int .u64 0] 72)) := below_alloc_two _ _ _
  have hr0 : BoxV ((w.alloc (.cells #[.int .i64 0, .int .i64 0, .string ⟨#[]⟩] 41)).alloc (.cells #[.int .i64 0, .int .u64 0] 72)) w.heap.size gnull := heap_alloc_old' _ _ _
  have hm0 : BoxW ((w.alloc (.cells #[.int .i64 0, .int .i64 0, .string ⟨#[]⟩] 41)).alloc (.cells #[.int .i64 0, .int .u64 0] 72)) (w.heap.size + 1) 0 := by
    unfold BoxW
    rw [wide0.1, wide0.2]
    exact heap_alloc_new' _ _ _
  obtain ⟨w1, hw1⟩ : ∃ w1, w1 = (w.alloc (.cells #[.int .i64 0, .int .i64 0, .string ⟨#[]⟩] 41)).alloc (.cells #[.int .i64 0, .int .u64 0] 72) := ⟨_, rfl⟩
  obtain ⟨res, hres⟩ : ∃ res, res = sumG l := ⟨_, rfl⟩
  rw [← hres]
  have HRS := Lib.hid hres
  clear hv hn h64 hres
  go_enter Try.func53, Try.ntmps53
  go_wp2_with fail
  rw [← hw1] at hB0 hr0 hm0 ⊢
  have HB0 := Lib.hid hB0
  have HR0 := Lib.hid hr0
  have HM0 := Lib.hid hm0
  clear hB0 hr0 hm0 hw1
  go_loopw [11, 4] (fun i q wr => ∃ (k : Nat) (qb : Bool), k ≤ n ∧ i = .int .i64 (k : Int) ∧ q = .bool qb ∧ Hid (qb = true ↔ intsL (l.take k) ≠ []) ∧ Hid (Below w.heap.size w wr) ∧ Hid (BoxV wr w.heap.size gnull) ∧ Hid (BoxW wr (w.heap.size + 1) (sumI (intsL (l.take k))))) (fun i _ _ => n - (intOf i).toNat)
  case atStart => exact ⟨0, false, Nat.zero_le _, rfl, rfl, Lib.hid (by simp [intsL]), HB0, HR0, HM0⟩
  case round =>
    obtain ⟨k, qb, hk, rfl, rfl, HQB, HB, HX, HM⟩ := hrel
    obtain ⟨wo, rfl⟩ : ∃ wo : World, wo = wr := ⟨_, rfl⟩
    by_cases hlt : k < n
    · obtain ⟨x, hx⟩ := lget_some l k (by rw [← HN.out]; exact hlt)
      obtain ⟨b0, o0, rfl, p0, p1, p2⟩ := gv_at3 (HV.out.below HB.out) hx
      have HS := Lib.hid (intsL_snoc hx)
      have hx64 := H64.out x (List.mem_of_getElem? hx)
      have hwk := HTW.out k
      have hnz : w.heap.size + 1 < wo.heap.size := (Array.getElem?_eq_some_iff.1 HM.out).1
      have hg := World.alloc_heap_new wo (.cells #[.int .i64 x.kind, .int .i64 x.n, .string x.s] 41)
      have HBA := Lib.hid (below_alloc_keep (o := .cells #[.int .i64 x.kind, .int .i64 x.n, .string x.s] 41) HB.out)
      have HXA := Lib.hid (HX.out.below (below_alloc wo (.cells #[.int .i64 x.kind, .int .i64 x.n, .string x.s] 41)))
      have HMA := Lib.hid (HM.out.below (below_alloc wo (.cells #[.int .i64 x.kind, .int .i64 x.n, .string x.s] 41)))
      have HGA : Hid (BoxV (wo.alloc (.cells #[.int .i64 x.kind, .int .i64 x.n, .string x.s] 41)) wo.heap.size x) := Lib.hid hg
      have HSZ := Lib.hid (sumI_append (intsL (l.take k)) [x.n])
      obtain ⟨s, hs⟩ : ∃ s, s = sumI (intsL (l.take k)) := ⟨_, rfl⟩
      rw [← hs] at hwk HMA HSZ
      have HSK := Lib.hid hs
      by_cases hkd : x.kind = 1
      · have HWI := fun W => Lib.hid (widen_any x.n hx64 W)
        have HPL := fun W => Lib.hid (plus_any s x.n hwk (by unfold In64 at hx64; unfold Wok; omega) W)
        have HT1 : Hid (intsL (l.take (k + 1)) = intsL (l.take k) ++ [x.n]) := Lib.hid (by rw [HS.out, if_pos hkd])
        have HTS : Hid (sumI (intsL (l.take (k + 1))) = s + x.n) := Lib.hid (by rw [HT1.out, HSZ.out]; simp [sumI])
        unfold wideV at HWI HPL
        obtain ⟨xk, xn, xs⟩ := x
        dsimp only at *
        subst hkd
        clear HS hwk hx hs HSZ HM HX HB hx64 HB0 HR0 HM0 hg
        go_upto_region 7 with fail
        have HS0 : Hid (SumS w wo.heap.size ⟨1, xn, xs⟩ (wo.alloc (.cells #[.int .i64 1, .int .i64 xn, .string xs] 41))) := Lib.hid ⟨HBA.out, HGA.out, HXA.out, s, HMA.out⟩
        obtain ⟨wv, hwv⟩ : ∃ wv, wv = wo.alloc (.cells #[.int .i64 1, .int .i64 xn, .string xs] 41) := ⟨_, rfl⟩
        rw [← hwv] at HS0 HMA ⊢
        clear HBA HGA HXA hwv p0 p1 p2
        refine wp_region_held_drew (S := SumS w wo.heap.size ⟨1, xn, xs⟩) (by kernel_rfl) (HS0.out.keep (Below.refl _ _).drew) (fun hHeld => ?_)
        refine take_y (i := 1) (d := some 19) (v := ?_) rfl rfl (by kernel_rfl) (by kernel_rfl) (by kernel_rfl) (fun _ _ _ h => h) (by assumption) ?_ ?_
        rotate_left
        · intro oi ho
          simp only [List.getElem?_toArray, List.getElem?_cons_succ, List.getElem?_cons_zero, Option.some.injEq] at ho
          subst ho
          intro w hSw
          obtain ⟨⟨e0, e1, e2⟩, _⟩ := hSw.val.cells
          go_simp
          (try with_reducible rfl)
        (try simp only [Act.put, List.setIfInBounds_toArray, List.set_cons_zero, List.set_cons_succ])
        refine take_y (i := 2) (d := some 20) (v := ?_) rfl rfl (by kernel_rfl) (by kernel_rfl) (by kernel_rfl) (fun _ _ _ h => h) (by assumption) ?_ ?_
        rotate_left
        · intro oi ho
          simp only [List.getElem?_toArray, List.getElem?_cons_succ, List.getElem?_cons_zero, Option.some.injEq] at ho
          subst ho
          intro w hSw
          obtain ⟨⟨e0, e1, e2⟩, _⟩ := hSw.val.cells
          go_simp
          (try with_reducible rfl)
        (try simp only [Act.put, List.setIfInBounds_toArray, List.set_cons_zero, List.set_cons_succ])
        refine wpAnyH_ready (rs := [0, 3]) (by kernel_rfl) (by simp) ?_
        refine AllReadyH.cons rfl (fun K hK => ?_) (AllReadyH.cons rfl (fun K hK => ?_) AllReadyH.nil)
        · obtain ⟨⟨m0, m1⟩, _⟩ := (HMA.out.below (Below.refl _ _).drew).cells
          go_simp
          refine hK.out _ _ ?_ (fun hHeld => ?_)
          · exact HS0.out.keep (Below.refl _ _).drew
          clear hK K
          (try simp only [Act.put, List.setIfInBounds_toArray, List.set_cons_zero, List.set_cons_succ])
          clear m0 m1
          refine wpAnyH_ready (rs := [3]) (by kernel_rfl) (by simp) ?_
          refine AllReadyH.cons rfl (fun K hK => ?_) AllReadyH.nil
          go_simp
          refine (HWI _).out.mono ?_
          rintro _ wy ⟨rfl, hby⟩
          refine hK.out _ _ ?_ (fun hHeld => ?_)
          · exact hHeld.keep hby
          clear hK K
          (try simp only [Act.put, List.setIfInBounds_toArray, List.set_cons_zero, List.set_cons_succ])
          have hmy : BoxW wy (w.heap.size + 1) s := (HMA.out.below (Below.refl _ _).drew).below hby
          refine wpAnyH_ready (rs := [4]) (by kernel_rfl) (by simp) ?_
          refine AllReadyH.cons rfl (fun K hK => ?_) AllReadyH.nil
          go_simp
          refine (HPL _).out.mono ?_
          rintro _ wz ⟨rfl, hbz⟩
          refine hK.out _ _ ?_ (fun hHeld => ?_)
          · exact hHeld.keep hbz
          clear hK K
          (try simp only [Act.put, List.setIfInBounds_toArray, List.set_cons_zero, List.set_cons_succ])
          have hmz := hmy.below hbz
          clear hmy
          refine wpAnyH_ready (rs := [5]) (by kernel_rfl) (by simp) ?_
          refine AllReadyH.cons rfl (fun K hK => ?_) AllReadyH.nil
          obtain ⟨⟨k0, k1⟩, k2, k3⟩ := hmz.cells
          go_simp
          refine hK.out _ _ ?_ (fun hHeld => ?_)
          · exact hHeld.set hnz (s + xn)
          clear hK K
          (try simp only [Act.put, List.setIfInBounds_toArray, List.set_cons_zero, List.set_cons_succ])
          refine wpAnyH_done (by kernel_rfl) ?_ _
          have hfin := (by assumption : SumS w wo.heap.size ⟨1, xn, xs⟩ ((wz.setCell ⟨w.heap.size + 1, 0, none⟩ (.int .i64 (hiW (s + xn)))).setCell ⟨w.heap.size + 1, 1, none⟩ (.int .u64 (loW (s + xn)))))
          have htot := hmz.set (s + xn)
          rw [← HTS.out] at htot
          have HE1 := Lib.hid hfin.below
          have HE2 := Lib.hid hfin.res
          have HE3 := Lib.hid htot
          have HQ' : Hid (true = true ↔ intsL (l.take (k + 1)) ≠ []) := Lib.hid (by rw [HT1.out]; simp)
          clear hfin htot hmz hHeld k0 k1 k2 k3
          rw [HTS.out] at HE3
          go_wp2_with fail
          go_roundw
          case rel => exact ⟨k + 1, true, by omega, by go_num, rfl, HQ', HE1, HE2, by rw [HTS.out]; exact HE3⟩
          case measure => simp [intOf]; omega
        · go_simp
          refine (HWI _).out.mono ?_
          rintro _ wy ⟨rfl, hby⟩
          refine hK.out _ _ ?_ (fun hHeld => ?_)
          · exact hHeld.keep hby
          clear hK K
          (try simp only [Act.put, List.setIfInBounds_toArray, List.set_cons_zero, List.set_cons_succ])
          have hmy : BoxW wy (w.heap.size + 1) s := (HMA.out.below (Below.refl _ _).drew).below hby
          refine wpAnyH_ready (rs := [0]) (by kernel_rfl) (by simp) ?_
          refine AllReadyH.cons rfl (fun K hK => ?_) AllReadyH.nil
          obtain ⟨⟨m0, m1⟩, _⟩ := hmy.cells
          go_simp
          refine hK.out _ _ ?_ (fun hHeld => ?_)
          · exact hHeld
          clear hK K
          (try simp only [Act.put, List.setIfInBounds_toArray, List.set_cons_zero, List.set_cons_succ])
          clear m0 m1
          refine wpAnyH_ready (rs := [4]) (by kernel_rfl) (by simp) ?_
          refine AllReadyH.cons rfl (fun K hK => ?_) AllReadyH.nil
          go_simp
          refine (HPL _).out.mono ?_
          rintro _ wz ⟨rfl, hbz⟩
          refine hK.out _ _ ?_ (fun hHeld => ?_)
          · exact hHeld.keep hbz
          clear hK K
          (try simp only [Act.put, List.setIfInBounds_toArray, List.set_cons_zero, List.set_cons_succ])
          have hmz := hmy.below hbz
          clear hmy
          refine wpAnyH_ready (rs := [5]) (by kernel_rfl) (by simp) ?_
          refine AllReadyH.cons rfl (fun K hK => ?_) AllReadyH.nil
          obtain ⟨⟨k0, k1⟩, k2, k3⟩ := hmz.cells
          go_simp
          refine hK.out _ _ ?_ (fun hHeld => ?_)
          · exact hHeld.set hnz (s + xn)
          clear hK K
          (try simp only [Act.put, List.setIfInBounds_toArray, List.set_cons_zero, List.set_cons_succ])
          refine wpAnyH_done (by kernel_rfl) ?_ _
          have hfin := (by assumption : SumS w wo.heap.size ⟨1, xn, xs⟩ ((wz.setCell ⟨w.heap.size + 1, 0, none⟩ (.int .i64 (hiW (s + xn)))).setCell ⟨w.heap.size + 1, 1, none⟩ (.int .u64 (loW (s + xn)))))
          have htot := hmz.set (s + xn)
          rw [← HTS.out] at htot
          have HE1 := Lib.hid hfin.below
          have HE2 := Lib.hid hfin.res
          have HE3 := Lib.hid htot
          have HQ' : Hid (true = true ↔ intsL (l.take (k + 1)) ≠ []) := Lib.hid (by rw [HT1.out]; simp)
          clear hfin htot hmz hHeld k0 k1 k2 k3
          rw [HTS.out] at HE3
          go_wp2_with fail
          go_roundw
          case rel => exact ⟨k + 1, true, by omega, by go_num, rfl, HQ', HE1, HE2, by rw [HTS.out]; exact HE3⟩
          case measure => simp [intOf]; omega
      · have HT1 : Hid (intsL (l.take (k + 1)) = intsL (l.take k)) := Lib.hid (by rw [HS.out, if_neg hkd, List.append_nil])
        have hkd2 : (x.kind == 1) = false := by simpa using hkd
        have HMA' : Hid (BoxW (wo.alloc (.cells #[.int .i64 x.kind, .int .i64 x.n, .string x.s] 41)) (w.heap.size + 1) (sumI (intsL (l.take (k + 1))))) := Lib.hid (by rw [HT1.out, ← HSK.out]; exact HMA.out)
        have HQ' : Hid (qb = true ↔ intsL (l.take (k + 1)) ≠ []) := Lib.hid (by rw [HT1.out]; exact HQB.out)
        clear HS hwk hx hs HSZ HM HX HB hx64 HB0 HR0 HM0 hg HT1 HMA HGA
        go_wp2_with fail
        go_roundw
        case rel => exact ⟨k + 1, qb, by omega, by go_num, rfl, HQ', HBA, HXA, HMA'⟩
        case measure => simp [intOf]; omega
    · have hkn : l.take k = l := List.take_of_length_le (by rw [← HN.out]; omega)
      have hqb := HQB.out
      have hm := HM.out
      rw [hkn] at hqb hm
      have HI := fun W => Lib.hid (int64_any (sumI (intsL l)) W)
      unfold wideV at HI
      obtain ⟨⟨c0, c1⟩, _⟩ := hm.cells
      have hn1 := @sumG_none l
      have hn2 := @sumG_far l
      have hn3 := @sumG_fits l
      rw [← HRS.out] at hn1 hn2 hn3
      generalize sumI (intsL l) = S at HI c0 c1 hn2 hn3
      generalize hiW S = A at HI c0
      generalize loW S = C at HI c1
      have HN1 := Lib.hid hn1
      have HN2 := Lib.hid hn2
      have HN3 := Lib.hid hn3
      have HQ := Lib.hid hqb
      clear hm hqb hkn HQB HM hn1 hn2 hn3 HB0 HR0 HM0
      cases hq : In64B S
      all_goals rw [hq] at HI HN2 HN3
      all_goals clear hq
      all_goals (
        go_wp2_with fail
        refine (HI _).out.mono ?_
        rintro _ w2 ⟨z, rfl, hz, hb2⟩
        have HZ := Lib.hid hz
        have HB2 := Lib.hid (below_keep HB.out hb2)
        have hx2 := HX.out.below hb2
        obtain ⟨⟨r0, r1, r2⟩, f0, f1, f2⟩ := hx2.cells
        have hzz : w.heap.size < w2.heap.size := hx2.lt
        clear hz hb2 hx2
        cases qb)
      · go_wp2_with fail
        have HR : Hid (res = gnull) := Lib.hid (HN2.out trivial)
        refine bodyPost_ret (v := aggG gnull) (by simp [aggG, gnull, results, Try.results53, go_sem, r0, r1, r2]) rfl ⟨by rw [HR.out], ?_⟩
        exact below_box3 HB2.out (Nat.le_refl _)
      · go_wp2_with fail
        have HR : Hid (res = gnull) := Lib.hid (HN2.out trivial)
        refine bodyPost_ret (v := aggG gnull) (by simp [aggG, gnull, results, Try.results53, go_sem, r0, r1, r2]) rfl ⟨by rw [HR.out], ?_⟩
        exact below_box3 HB2.out (Nat.le_refl _)
      · have HR : Hid (res = gnull) := Lib.hid (HN1.out (Classical.byContradiction fun h => by have := HQ.out.2 h; cases this))
        go_wp2_with fail
        refine bodyPost_ret (v := aggG gnull) (by simp [aggG, gnull, results, Try.results53, go_sem, r0, r1, r2]) rfl ⟨by rw [HR.out], ?_⟩
        exact below_box3 HB2.out (Nat.le_refl _)
      · have HR : Hid (res = gint z) := Lib.hid (by rw [HN3.out (HQ.out.1 rfl) trivial, HZ.out trivial])
        go_wp2_with fail
        refine bodyPost_ret (v := aggG (gint z)) (by simp [aggG, gint, results, Try.results53, go_sem, r0, r1, r2]) rfl ⟨by rw [HR.out], ?_⟩
        exact below_box3 HB2.out (Nat.le_refl _)
end Go.Proofs.Ytfmbbfidjcgeiaa

namespace Go.Proofs.Ytfmbbfidjcgeiaa
open Go.RowKit Go.Lib Go.Shelf

theorem flat_set {l : List GVal} {k : Nat} (hk : k < l.length) (y : GVal) :
    (((l.flatMap valOf).set (k * 3) (.int .i64 y.kind)).set (k * 3 + 1) (.int .i64 y.n)).set (k * 3 + 2) (.string y.s) = (l.set k y).flatMap valOf := by
  induction l generalizing k with
  | nil => simp at hk
  | cons x l ih =>
    cases k with
    | zero => simp [valOf]
    | succ k =>
      have e0 : (k + 1) * 3 = k * 3 + 1 + 1 + 1 := by omega
      have h := ih (k := k) (by simpa using hk)
      rw [e0]
      simp only [List.flatMap_cons, List.set_cons_succ, ← h]
      simp [valOf]
theorem made_vals (n : Nat) : (madeCells #[.int .i64 0, .int .i64 0, .string ⟨#[]⟩] (n * 3)).toList = (List.replicate n gnull).flatMap valOf := by
  refine List.ext_getElem? fun j => ?_
  rcases Nat.lt_or_ge j (n * 3) with hj | hj
  · have hi : j / 3 < n := by omega
    have hx : (List.replicate n gnull)[j / 3]? = some gnull := by simp [hi]
    obtain ⟨r, hr, e⟩ : ∃ r, r < 3 ∧ j = j / 3 * 3 + r := ⟨j % 3, by omega, by omega⟩
    have hm : j % 3 = r := by omega
    have hl : (madeCells #[.int .i64 0, .int .i64 0, .string ⟨#[]⟩] (n * 3)).toList[j]? = some (#[.int .i64 0, .int .i64 0, Value.string ⟨#[]⟩][r]!) := by
      simp [madeCells, hj, hm]
    rw [hl, e]
    rcases (by omega : r = 0 ∨ r = 1 ∨ r = 2) with rfl | rfl | rfl
    · exact (flatMap_at valOf 3 (fun _ => rfl) _ _ _ 0 _ hx rfl).symm
    · exact (flatMap_at valOf 3 (fun _ => rfl) _ _ _ 1 _ hx rfl).symm
    · exact (flatMap_at valOf 3 (fun _ => rfl) _ _ _ 2 _ hx rfl).symm
  · have h2 := flatMap_length valOf 3 (fun _ => rfl) (List.replicate n gnull)
    rw [List.getElem?_eq_none (by simpa [size_madeCells] using hj), List.getElem?_eq_none (by rw [h2]; simpa using hj)]
theorem own_made {w : World} {B g n : Nat} (h : w.ownsRow B 41 3 (.slice (some ⟨g, 0, none⟩) n n) n (madeCells #[.int .i64 0, .int .i64 0, .string ⟨#[]⟩] (n * 3)).toList) : Own valE w B (.slice (some ⟨g, 0, none⟩) n n) (List.replicate n gnull) := by
  rw [made_vals] at h
  exact Own.of_flat (by simpa using h)
theorem own_set3 {w : World} {B g n c k : Nat} {l : List GVal} (h : Own valE w B (.slice (some ⟨g, 0, none⟩) n c) l) (hn : l.length = n) (hk : k < n) (y : GVal) :
    Own valE (((w.setCell ⟨g, k * 3, none⟩ (.int .i64 y.kind)).setCell ⟨g, k * 3 + 1, none⟩ (.int .i64 y.n)).setCell ⟨g, k * 3 + 2, none⟩ (.string y.s)) B (.slice (some ⟨g, 0, none⟩) n c) (l.set k y) := by
  have h1 := Own.flat_cells h
  rw [hn] at h1
  have h2 := (((h1.stored (k * 3) (.int .i64 y.kind)).1.stored (k * 3 + 1) (.int .i64 y.n)).1.stored (k * 3 + 2) (.string y.s)).1
  rw [flat_set (by omega) y] at h2
  exact Own.of_flat (by simpa [hn] using h2)
theorem own_frozen {w : World} {B g n c : Nat} {l : List GVal} (h : Own valE w B (.slice (some ⟨g, 0, none⟩) n c) l) (hn : l.length = n) (j : Nat) : w.frozen? ⟨g, j, none⟩ = false := by
  have h1 := Own.flat_cells h
  rw [hn] at h1
  exact h1.frozenAt j
theorem own_at3 {w : World} {B g n c k : Nat} {l : List GVal} {x : GVal} (h : Own valE w B (.slice (some ⟨g, 0, none⟩) n c) l) (hk : l[k]? = some x) :
    w.cell? ⟨g, k * 3, none⟩ = some (.int .i64 x.kind) ∧ w.cell? ⟨g, k * 3 + 1, none⟩ = some (.int .i64 x.n) ∧ w.cell? ⟨g, k * 3 + 2, none⟩ = some (.string x.s) := by
  obtain ⟨a, c', e⟩ := h.shape
  cases e
  obtain ⟨b, o, e, p0, p1, p2⟩ := val_at h.sl hk
  cases e
  simp only [Nat.zero_add] at p0 p1 p2
  exact ⟨p0, p1, p2⟩
end Go.Proofs.Ytfmbbfidjcgeiaa

namespace Go.Proofs.Ytfmbbfidjcgeiaa
open Go.RowKit Go.Lib Go.Shelf

theorem val_parts : ∃ i, Try.prog.info? 41 = some i ∧ i.zero = some (.agg #[.int .i64 0, .int .i64 0, .string ⟨#[]⟩]) ∧ i.size = 3 ∧ i.bytes = 32 := by
  obtain ⟨i, hi, h⟩ := Option.map_eq_some_iff.1 val_info
  simp only [Prod.mk.injEq] at h
  exact ⟨i, hi, h.1, h.2.1, h.2.2⟩
set_option maxHeartbeats 2000000 in
theorem reEval_none (v vr : Value) (l : List GExp) (root : Int) (_row : List GVal) (w : World) (hv : Sl expE w free v l) (hroot : root < 0 ∨ (l.length : Int) ≤ root) :
    Calls Try.prog 41 #[v, .int .i64 root, vr] w fun e w' => e = .returned (aggG gnull) ∧ Below w.heap.size w w' := by
  obtain ⟨a1, c1, rfl⟩ := hv.shape
  obtain ⟨n, hn⟩ : ∃ n, n = l.length := ⟨_, rfl⟩
  rw [← hn] at hroot ⊢
  clear hv hn
  go_enter Try.func41, Try.ntmps41
  by_cases h0 : root < 0
  · go_wp2_with fail
    exact bodyPost_ret (v := aggG gnull) (by simp [aggG, gnull, results, Try.results41, go_sem]) rfl ⟨rfl, (Below.refl _ _).alloc (Nat.le_refl _) _⟩
  · have h1 : (n : Int) ≤ root := by omega
    go_wp2_with fail
    exact bodyPost_ret (v := aggG gnull) (by simp [aggG, gnull, results, Try.results41, go_sem]) rfl ⟨rfl, (Below.refl _ _).alloc (Nat.le_refl _) _⟩
set_option maxRecDepth 100000 in
set_option maxHeartbeats 2000000 in
theorem reEval_some (v vr : Value) (l : List GExp) (R : Nat) (row : List GVal) (w : World) (hv : Sl expE w free v l) (hr : Sl valE w free vr row) (hR : R < l.length) (hsz : 32 * (R + 1) ≤ 281474976710656) (hc : ∀ x ∈ l, In64 x.c.n) (hrow : ∀ g ∈ row, In64 g.n) :
    Calls Try.prog 41 #[v, .int .i64 (R : Int), vr] w fun e w' => e = .returned (aggG ((vals l row (R + 1)).getD R gnull)) ∧ Below w.heap.size w w' := by
  obtain ⟨a1, c1, rfl⟩ := hv.shape
  obtain ⟨a2, c2, rfl⟩ := hr.shape
  have HE : ∀ (W : World) (k : Nat) (vd : Value), k < R + 1 → Below w.heap.size w W → Sl valE W free vd (vals l row k ++ List.replicate (R + 1 - k) gnull) →
      Hid (Calls Try.prog 63 #[.slice a1 l.length c1, .int .i64 (k : Int), .slice a2 row.length c2, vd] W fun e w' => e = .returned (aggG (xev (l.getD k gx0) k row (vals l row k))) ∧ Below W.heap.size W w') := fun W k vd hk hB hd => by
    obtain ⟨x, hx⟩ := lget_some l k (by omega)
    have h := reval_any _ _ vd l k x row (vals l row k ++ List.replicate (R + 1 - k) gnull) W (hv.below hB) hx (hr.below hB) hd (by rw [List.length_append, vals_length]; omega) (fun g hg => by
      rcases List.mem_append.1 hg with h | h
      · exact in64_vals l row hc hrow k g h
      · rw [(List.mem_replicate.1 h).2]; exact in64_gnull)
    have hp := xev_pad x row (vals l row k) (List.replicate (R + 1 - k) gnull)
    rw [vals_length] at hp
    rw [hp] at h
    rw [getD_some hx]
    exact h
  have h63 := hv.1
  obtain ⟨n, hn⟩ : ∃ n, n = l.length := ⟨_, rfl⟩
  obtain ⟨m, hm⟩ : ∃ m, m = row.length := ⟨_, rfl⟩
  rw [← hn] at hR h63 ⊢
  rw [← hn, ← hm] at HE
  rw [← hm]
  clear hv hr hc hrow hn hm
  obtain ⟨i0, hi, hj0, hj1, hj2⟩ := val_parts
  go_enter Try.func41, Try.ntmps41
  go_wp2_with (at_make; refine wpList_make_full _ rfl _ _ 46 rfl (w.heap.size + 1) 41 i0 _ 3 Try.underlying46 hi hj0 hj1 _ _ _ _ (R + 1) rfl rfl (by go_num) (by go_num) (by rw [hj2]; omega) (by unfold maxLen; omega) (by simp) ?_; intro w1 hown1 hg1)
  have hO1 : Own valE w1 (w.heap.size + 1) (.slice (some ⟨w.heap.size + 1, 0, none⟩) (R + 1) (R + 1)) (List.replicate (R + 1) gnull) := own_made (by have h := hown1; rw [show (w.alloc (.cells #[.int .i64 0, .int .i64 0, .string ⟨#[]⟩] 41)).heap.size = w.heap.size + 1 by simp] at h; exact h)
  have hB1 : Below w.heap.size w w1 := ((Below.refl _ _).alloc (Nat.le_refl _) _).grown hg1 (by simp) (fun k hk => by cases hk)
  have hx1 : w1.heap[w.heap.size]? = some (.cells #[.int .i64 0, .int .i64 0, .string ⟨#[]⟩] 41 (0, 0)) := (hg1.block w.heap.size (by simp) (by simp)).trans (World.alloc_heap_new w _)
  clear hown1 hg1
  go_loopw [8] (fun i wr => ∃ k : Nat, k ≤ R + 1 ∧ i = .int .i64 k ∧ Own valE wr (w.heap.size + 1) (.slice (some ⟨w.heap.size + 1, 0, none⟩) (R + 1) (R + 1)) (vals l row k ++ List.replicate (R + 1 - k) gnull) ∧ wr.heap[w.heap.size]? = some (.cells #[.int .i64 0, .int .i64 0, .string ⟨#[]⟩] 41 (0, 0)) ∧ Below w.heap.size w wr) (fun i _ => R + 1 - (intOf i).toNat)
  case atStart => exact ⟨0, Nat.zero_le _, rfl, hO1, hx1, hB1⟩
  case round =>
    obtain ⟨k, hk, rfl, hO, hx, hB⟩ := hrel
    obtain ⟨wo, rfl⟩ : ∃ wo : World, wo = wr := ⟨_, rfl⟩
    by_cases hlt : k < R + 1
    · have HC := HE wo k _ hlt hB hO.sl
      clear HE hO1 hB1 hx1
      go_wp2_with fail
      refine HC.out.mono ?_
      rintro e w2 ⟨rfl, hb2⟩
      have hO2 := hO.below hb2
      have hx2 := box_kept hx hb2
      have hB2 : Below w.heap.size w w2 := hB.trans (hb2.mono hB.size)
      obtain ⟨y, hy⟩ : ∃ y, y = xev (l.getD k gx0) k row (vals l row k) := ⟨_, rfl⟩
      have HV : Hid ((vals l row k ++ List.replicate (R + 1 - k) gnull).set k y = vals l row (k + 1) ++ List.replicate (R + 1 - (k + 1)) gnull) := by
        show _ = _
        have h := fill_set (vals l row k) gnull y (R + 1 - (k + 1))
        rw [vals_length, show R + 1 - (k + 1) + 1 = R + 1 - k by omega] at h
        rw [h, hy]; rfl
      have hlen : (vals l row k ++ List.replicate (R + 1 - k) gnull).length = R + 1 := by simp [vals_length]; omega
      have hS := own_set3 hO2 hlen hlt y
      rw [HV.out] at hS
      obtain ⟨z, hz⟩ := lget_some (vals l row k ++ List.replicate (R + 1 - k) gnull) k (by omega)
      obtain ⟨p0, p1, p2⟩ := own_at3 hO2 hz
      have f0 := own_frozen hO2 hlen (k * 3)
      have f1 := own_frozen hO2 hlen (k * 3 + 1)
      have f2 := own_frozen hO2 hlen (k * 3 + 2)
      have HS := Lib.hid hS
      have HX := Lib.hid hx2
      have HB := Lib.hid hB2
      have hsz2 := hb2.size
      have hszo := hB.size
      have hsz3 := (hO2.lt _ rfl).2
      rw [← hy]
      clear hO hx hB HC hb2 hO2 hx2 hB2 hlen hS hz hy HV
      unfold aggG
      go_wp2_with fail
      go_roundw
      case rel =>
        refine ⟨k + 1, by omega, by go_num, HS.out, ?_, ((HB.out.setCell (Nat.le_succ _) _).setCell (Nat.le_succ _) _).setCell (Nat.le_succ _) _⟩
        rw [heap_setCell_other _ _ _ _ (Nat.ne_of_lt (Nat.lt_succ_self _)), heap_setCell_other _ _ _ _ (Nat.ne_of_lt (Nat.lt_succ_self _)), heap_setCell_other _ _ _ _ (Nat.ne_of_lt (Nat.lt_succ_self _))]
        exact HX.out
      case measure => simp [intOf]; omega
    · have hkR : k = R + 1 := by omega
      subst hkR
      obtain ⟨z, hz⟩ := lget_some (vals l row (R + 1) ++ List.replicate (R + 1 - (R + 1)) gnull) R (by simp [vals_length])
      obtain ⟨p0, p1, p2⟩ := own_at3 hO hz
      have HG : Hid ((vals l row (R + 1)).getD R gnull = z) := by
        show _ = _
        rw [← getD_left (vals l row (R + 1)) (List.replicate (R + 1 - (R + 1)) gnull) gnull (by rw [vals_length]; omega), getD_some hz]
      obtain ⟨⟨x0, x1, x2⟩, f0, f1, f2⟩ := box_three hx
      have hsz3 := hB.size
      have HB := Lib.hid hB
      have hsz4 := (hO.lt _ rfl).2
      clear HE hO1 hB1 hx1 hO hx hB hz
      go_wp2_with fail
      have hwz : w.heap.size < wo.heap.size := by omega
      exact bodyPost_ret (v := aggG z) (by simp [aggG, results, Try.results41, go_sem, x0, x1, x2]) rfl ⟨by have h := HG.out; simp only [List.getD_eq_getElem?_getD] at h; rw [h], ((HB.out.setCell (Nat.le_refl _) _).setCell (Nat.le_refl _) _).setCell (Nat.le_refl _) _⟩
theorem reEval_any (v vr : Value) (l : List GExp) (root : Int) (row : List GVal) (w : World) (hv : Sl expE w free v l) (hr : Sl valE w free vr row) (hsz : 32 * l.length ≤ 281474976710656) (hc : ∀ x ∈ l, In64 x.c.n) (hrow : ∀ g ∈ row, In64 g.n) :
    Calls Try.prog 41 #[v, .int .i64 root, vr] w fun e w' => e = .returned (aggG (evalG l root row)) ∧ Below w.heap.size w w' := by
  unfold evalG
  by_cases h : root < 0 ∨ (l.length : Int) ≤ root
  · rw [if_pos h]; exact reEval_none v vr l root row w hv h
  · rw [if_neg h]
    obtain ⟨R, rfl⟩ := Int.eq_ofNat_of_zero_le (show 0 ≤ root by omega)
    exact reEval_some v vr l R row w hv hr (by omega) (by omega) hc hrow
end Go.Proofs.Ytfmbbfidjcgeiaa

namespace Go.Proofs.Ytfmbbfidjcgeiaa
open Go.RowKit Go.Lib Go.Shelf

def aggX (x : GExp) : Value := .agg #[.int .i64 x.op, .int .i64 x.a, .int .i64 x.b, .int .i64 x.col, .int .i64 x.c.kind, .int .i64 x.c.n, .string x.c.s]
set_option maxHeartbeats 4000000 in
set_option maxRecDepth 100000 in
theorem apply_1 (va vr : Value) (xa xb col : Int) (c : GVal) (w : World) :
    Calls Try.prog 74 #[aggX ⟨1, xa, xb, col, c⟩, va, vr] w fun e w' => e = .returned (aggG c) ∧ Below w.heap.size w w' := by
  obtain ⟨ck, cn, cs⟩ := c
  unfold aggX
  dsimp only
  go_enter Try.func74, Try.ntmps74
  go_wp2_with fail
  exact bodyPost_ret (v := aggG ⟨ck, cn, cs⟩) (by simp [aggG, results, Try.results74, go_sem]) rfl ⟨rfl, by first | exact below_alloc_two w _ _ | exact (below_alloc_two w _ _).setCell (by simp) _⟩
set_option maxHeartbeats 4000000 in
set_option maxRecDepth 100000 in
theorem apply_2n (va : Value) (a2 : Option Addr) (n2 c2 : Nat) (xa xb col : Int) (c : GVal) (w : World) (hcol : ¬ (0 ≤ col ∧ col < n2)) :
    Calls Try.prog 74 #[aggX ⟨2, xa, xb, col, c⟩, va, .slice a2 n2 c2] w fun e w' => e = .returned (aggG gnull) ∧ Below w.heap.size w w' := by
  obtain ⟨ck, cn, cs⟩ := c
  unfold aggX
  dsimp only
  go_enter Try.func74, Try.ntmps74
  by_cases h0 : col < 0
  · go_wp2_with fail
    exact bodyPost_ret (v := aggG gnull) (by simp [aggG, gnull, results, Try.results74, go_sem]) rfl ⟨rfl, by first | exact below_alloc_two w _ _ | exact (below_alloc_two w _ _).setCell (by simp) _⟩
  · have h1 : (n2 : Int) ≤ col := by omega
    go_wp2_with fail
    exact bodyPost_ret (v := aggG gnull) (by simp [aggG, gnull, results, Try.results74, go_sem]) rfl ⟨rfl, by first | exact below_alloc_two w _ _ | exact (below_alloc_two w _ _).setCell (by simp) _⟩
set_option maxHeartbeats 4000000 in
set_option maxRecDepth 100000 in
theorem apply_2 (va : Value) (b o n2 c2 C : Nat) (xa xb : Int) (c : GVal) (k1 m1 : Int) (s1 : ByteArray) (w : World) (hcol : C < n2) (_h63 : n2 ≤ 9223372036854775807)
    (p0 : w.cell? ⟨b, o + C * 3, none⟩ = some (.int .i64 k1)) (p1 : w.cell? ⟨b, o + C * 3 + 1, none⟩ = some (.int .i64 m1)) (p2 : w.cell? ⟨b, o + C * 3 + 2, none⟩ = some (.string s1)) :
    Calls Try.prog 74 #[aggX ⟨2, xa, xb, (C : Int), c⟩, va, .slice (some ⟨b, o, none⟩) n2 c2] w fun e w' => e = .returned (aggG ⟨k1, m1, s1⟩) ∧ Below w.heap.size w w' := by
  have lb : b < w.heap.size := World.block_lt_of_cell? w _ p0
  have lb1 : b < w.heap.size + 1 := by omega
  have lb2 : b < w.heap.size + 1 + 1 := by omega
  obtain ⟨ck, cn, cs⟩ := c
  unfold aggX
  dsimp only
  go_enter Try.func74, Try.ntmps74
  go_wp2_with fail
  exact bodyPost_ret (v := aggG ⟨k1, m1, s1⟩) (by simp [aggG, results, Try.results74, go_sem]) rfl ⟨rfl, by first | exact below_alloc_two w _ _ | exact (below_alloc_two w _ _).setCell (by simp) _⟩
theorem isTrue_ag (k n : Int) (s : ByteArray) (w : World) : Calls Try.prog 100 #[.agg #[.int .i64 k, .int .i64 n, .string s]] w fun e w' => e = .returned (.bool (isTrueG ⟨k, n, s⟩)) ∧ Below w.heap.size w w' := isTrue_any ⟨k, n, s⟩ w

theorem aggG_bool (b : Bool) : aggG (gbool b) = .agg #[.int .i64 3, .int .i64 (b2i b), .string ⟨#[]⟩] := rfl
theorem boolean_ag (b : Bool) (w : World) : Calls Try.prog 99 #[.bool b] w fun e w' => e = .returned (.agg #[.int .i64 3, .int .i64 (b2i b), .string ⟨#[]⟩]) ∧ Below w.heap.size w w' := boolean_any b w
theorem heap2_1 (w : World) (c1 c2 : Obj) : ((w.alloc c1).alloc c2).heap[w.heap.size + 1]? = some c2 := by simpa using World.alloc_heap_new (w.alloc c1) c2
set_option maxHeartbeats 4000000 in
set_option maxRecDepth 100000 in
theorem apply_10 (b o n1 c1 : Nat) (vr : Value) (xa xb col : Int) (c : GVal) (k1 m1 : Int) (s1 : ByteArray) (w : World) (hn : 0 < n1) (_h63 : n1 ≤ 9223372036854775807)
    (p0 : w.cell? ⟨b, o, none⟩ = some (.int .i64 k1)) (p1 : w.cell? ⟨b, o + 1, none⟩ = some (.int .i64 m1)) (p2 : w.cell? ⟨b, o + 2, none⟩ = some (.string s1)) :
    Calls Try.prog 74 #[aggX ⟨10, xa, xb, col, c⟩, .slice (some ⟨b, o, none⟩) n1 c1, vr] w fun e w' => e = .returned (aggG (gbool (!isTrueG ⟨k1, m1, s1⟩))) ∧ Below w.heap.size w w' := by
  have lb : b < w.heap.size := World.block_lt_of_cell? w _ p0
  have lb1 : b < w.heap.size + 1 := by omega
  have lb2 : b < w.heap.size + 1 + 1 := by omega
  obtain ⟨ck, cn, cs⟩ := c
  obtain ⟨r, hr⟩ : ∃ r, r = isTrueG ⟨k1, m1, s1⟩ := ⟨_, rfl⟩
  rw [← hr]
  have HR := Lib.hid hr
  clear hr
  unfold aggX
  dsimp only
  go_enter Try.func74, Try.ntmps74
  go_wp2_with fail
  refine (isTrue_ag k1 m1 s1 _).mono ?_
  rintro e w1 ⟨rfl, hb1⟩
  rw [← HR.out]
  have hB1 : Below w.heap.size w w1 := below_keep (below_alloc_two w _ _) hb1
  have bx := box_kept (heap2_1 w _ _) hb1
  have hz : w.heap.size + 1 < w1.heap.size := by have := hb1.size; simp at this; omega
  clear hb1
  go_wp2_with fail
  refine (boolean_ag (!r) _).mono ?_
  rintro e w2 ⟨rfl, hb2⟩
  obtain ⟨⟨d0, d1, d2⟩, f0, f1, f2⟩ := box_three (box_kept bx hb2)
  have hB2 : Below w.heap.size w w2 := below_keep hB1 hb2
  have hz2 : w.heap.size + 1 < w2.heap.size := by have := hb2.size; omega
  clear hb2 hB1 bx
  go_wp2_with fail
  rw [aggG_bool]
  exact bodyPost_ret (v := .agg #[.int .i64 3, .int .i64 (b2i (!r)), .string ⟨#[]⟩]) (by simp [results, Try.results74, go_sem, d0, d1, d2]) rfl ⟨rfl, ((hB2.setCell (Nat.le_succ _) _).setCell (Nat.le_succ _) _).setCell (Nat.le_succ _) _⟩
end Go.Proofs.Ytfmbbfidjcgeiaa

namespace Go.Proofs.Ytfmbbfidjcgeiaa
open Go.RowKit Go.Lib Go.Shelf

set_option maxHeartbeats 4000000 in
set_option maxRecDepth 100000 in
theorem apply_8 (b o n1 c1 : Nat) (vr : Value) (xa xb col : Int) (c : GVal) (k1 m1 k2 m2 : Int) (s1 s2 : ByteArray) (w : World) (hn : 1 < n1) (h63 : n1 ≤ 9223372036854775807)
    (p0 : w.cell? ⟨b, o, none⟩ = some (.int .i64 k1)) (p1 : w.cell? ⟨b, o + 1, none⟩ = some (.int .i64 m1)) (p2 : w.cell? ⟨b, o + 2, none⟩ = some (.string s1))
    (q0 : w.cell? ⟨b, o + 3, none⟩ = some (.int .i64 k2)) (q1 : w.cell? ⟨b, o + 3 + 1, none⟩ = some (.int .i64 m2)) (q2 : w.cell? ⟨b, o + 3 + 2, none⟩ = some (.string s2)) :
    Calls Try.prog 74 #[aggX ⟨8, xa, xb, col, c⟩, .slice (some ⟨b, o, none⟩) n1 c1, vr] w fun e w' => e = .returned (aggG (gbool (isTrueG ⟨k1, m1, s1⟩ && isTrueG ⟨k2, m2, s2⟩))) ∧ Below w.heap.size w w' := by
  have lb : b < w.heap.size := World.block_lt_of_cell? w _ p0
  have lb1 : b < w.heap.size + 1 := by omega
  have lb2 : b < w.heap.size + 1 + 1 := by omega
  have hn0 : 0 < n1 := by omega
  obtain ⟨ck, cn, cs⟩ := c
  obtain ⟨r, hr⟩ : ∃ r, r = isTrueG ⟨k1, m1, s1⟩ := ⟨_, rfl⟩
  obtain ⟨t, ht⟩ : ∃ t, t = isTrueG ⟨k2, m2, s2⟩ := ⟨_, rfl⟩
  rw [← hr, ← ht]
  have HR := Lib.hid hr
  have HT := Lib.hid ht
  clear hr ht
  unfold aggX
  dsimp only
  go_enter Try.func74, Try.ntmps74
  go_wp2_with fail
  refine (isTrue_ag k1 m1 s1 _).mono ?_
  rintro e w1 ⟨rfl, hb1⟩
  rw [← HR.out]
  have hB1 : Below w.heap.size w w1 := below_keep (below_alloc_two w _ _) hb1
  have bx := box_kept (heap2_1 w _ _) hb1
  have hz : w.heap.size + 1 < w1.heap.size := by have := hb1.size; simp at this; omega
  replace q0 := cell_keep hB1 q0
  replace q1 := cell_keep hB1 q1
  replace q2 := cell_keep hB1 q2
  clear hb1
  cases r
  · go_wp2_with fail
    refine (boolean_ag false _).mono ?_
    rintro e w3 ⟨rfl, hb3⟩
    obtain ⟨⟨d0, d1, d2⟩, f0, f1, f2⟩ := box_three (box_kept bx hb3)
    have hB3 := below_keep hB1 hb3
    have hz3 : w.heap.size + 1 < w3.heap.size := by have := hb3.size; omega
    clear hb3 hB1 bx
    go_wp2_with fail
    exact bodyPost_ret (v := .agg #[.int .i64 3, .int .i64 (b2i false), .string ⟨#[]⟩]) (by simp [results, Try.results74, go_sem, d0, d1, d2]) rfl ⟨by simp only [Bool.false_and]; rfl, ((hB3.setCell (Nat.le_succ _) _).setCell (Nat.le_succ _) _).setCell (Nat.le_succ _) _⟩
  · go_wp2_with fail
    refine (isTrue_ag k2 m2 s2 _).mono ?_
    rintro e w2 ⟨rfl, hb2⟩
    rw [← HT.out]
    replace bx := box_kept bx hb2
    replace hB1 := below_keep hB1 hb2
    replace hz : w.heap.size + 1 < w2.heap.size := by have := hb2.size; omega
    clear hb2
    go_wp2_with fail
    refine (boolean_ag t _).mono ?_
    rintro e w3 ⟨rfl, hb3⟩
    obtain ⟨⟨d0, d1, d2⟩, f0, f1, f2⟩ := box_three (box_kept bx hb3)
    have hB3 := below_keep hB1 hb3
    have hz3 : w.heap.size + 1 < w3.heap.size := by have := hb3.size; omega
    clear hb3 hB1 bx
    go_wp2_with fail
    exact bodyPost_ret (v := .agg #[.int .i64 3, .int .i64 (b2i t), .string ⟨#[]⟩]) (by simp [results, Try.results74, go_sem, d0, d1, d2]) rfl ⟨by simp only [Bool.true_and]; rfl, ((hB3.setCell (Nat.le_succ _) _).setCell (Nat.le_succ _) _).setCell (Nat.le_succ _) _⟩
set_option maxHeartbeats 4000000 in
set_option maxRecDepth 100000 in
theorem apply_9 (b o n1 c1 : Nat) (vr : Value) (xa xb col : Int) (c : GVal) (k1 m1 k2 m2 : Int) (s1 s2 : ByteArray) (w : World) (hn : 1 < n1) (h63 : n1 ≤ 9223372036854775807)
    (p0 : w.cell? ⟨b, o, none⟩ = some (.int .i64 k1)) (p1 : w.cell? ⟨b, o + 1, none⟩ = some (.int .i64 m1)) (p2 : w.cell? ⟨b, o + 2, none⟩ = some (.string s1))
    (q0 : w.cell? ⟨b, o + 3, none⟩ = some (.int .i64 k2)) (q1 : w.cell? ⟨b, o + 3 + 1, none⟩ = some (.int .i64 m2)) (q2 : w.cell? ⟨b, o + 3 + 2, none⟩ = some (.string s2)) :
    Calls Try.prog 74 #[aggX ⟨9, xa, xb, col, c⟩, .slice (some ⟨b, o, none⟩) n1 c1, vr] w fun e w' => e = .returned (aggG (gbool (isTrueG ⟨k1, m1, s1⟩ || isTrueG ⟨k2, m2, s2⟩))) ∧ Below w.heap.size w w' := by
  have lb : b < w.heap.size := World.block_lt_of_cell? w _ p0
  have lb1 : b < w.heap.size + 1 := by omega
  have lb2 : b < w.heap.size + 1 + 1 := by omega
  have hn0 : 0 < n1 := by omega
  obtain ⟨ck, cn, cs⟩ := c
  obtain ⟨r, hr⟩ : ∃ r, r = isTrueG ⟨k1, m1, s1⟩ := ⟨_, rfl⟩
  obtain ⟨t, ht⟩ : ∃ t, t = isTrueG ⟨k2, m2, s2⟩ := ⟨_, rfl⟩
  rw [← hr, ← ht]
  have HR := Lib.hid hr
  have HT := Lib.hid ht
  clear hr ht
  unfold aggX
  dsimp only
  go_enter Try.func74, Try.ntmps74
  go_wp2_with fail
  refine (isTrue_ag k1 m1 s1 _).mono ?_
  rintro e w1 ⟨rfl, hb1⟩
  rw [← HR.out]
  have hB1 : Below w.heap.size w w1 := below_keep (below_alloc_two w _ _) hb1
  have bx := box_kept (heap2_1 w _ _) hb1
  have hz : w.heap.size + 1 < w1.heap.size := by have := hb1.size; simp at this; omega
  replace q0 := cell_keep hB1 q0
  replace q1 := cell_keep hB1 q1
  replace q2 := cell_keep hB1 q2
  clear hb1
  cases r
  · go_wp2_with fail
    refine (isTrue_ag k2 m2 s2 _).mono ?_
    rintro e w2 ⟨rfl, hb2⟩
    rw [← HT.out]
    replace bx := box_kept bx hb2
    replace hB1 := below_keep hB1 hb2
    replace hz : w.heap.size + 1 < w2.heap.size := by have := hb2.size; omega
    clear hb2
    go_wp2_with fail
    refine (boolean_ag t _).mono ?_
    rintro e w3 ⟨rfl, hb3⟩
    obtain ⟨⟨d0, d1, d2⟩, f0, f1, f2⟩ := box_three (box_kept bx hb3)
    have hB3 := below_keep hB1 hb3
    have hz3 : w.heap.size + 1 < w3.heap.size := by have := hb3.size; omega
    clear hb3 hB1 bx
    go_wp2_with fail
    exact bodyPost_ret (v := .agg #[.int .i64 3, .int .i64 (b2i t), .string ⟨#[]⟩]) (by simp [results, Try.results74, go_sem, d0, d1, d2]) rfl ⟨by simp only [Bool.false_or]; rfl, ((hB3.setCell (Nat.le_succ _) _).setCell (Nat.le_succ _) _).setCell (Nat.le_succ _) _⟩
  · go_wp2_with fail
    refine (boolean_ag true _).mono ?_
    rintro e w3 ⟨rfl, hb3⟩
    obtain ⟨⟨d0, d1, d2⟩, f0, f1, f2⟩ := box_three (box_kept bx hb3)
    have hB3 := below_keep hB1 hb3
    have hz3 : w.heap.size + 1 < w3.heap.size := by have := hb3.size; omega
    clear hb3 hB1 bx
    go_wp2_with fail
    exact bodyPost_ret (v := .agg #[.int .i64 3, .int .i64 (b2i true), .string ⟨#[]⟩]) (by simp [results, Try.results74, go_sem, d0, d1, d2]) rfl ⟨by simp only [Bool.true_or]; rfl, ((hB3.setCell (Nat.le_succ _) _).setCell (Nat.le_succ _) _).setCell (Nat.le_succ _) _⟩
set_option maxHeartbeats 4000000 in
set_option maxRecDepth 100000 in
theorem apply_11 (b o n1 c1 : Nat) (vr : Value) (xa xb col : Int) (c : GVal) (k1 : Int) (w : World) (hn : 0 < n1) (_h63 : n1 ≤ 9223372036854775807)
    (p0 : w.cell? ⟨b, o, none⟩ = some (.int .i64 k1)) :
    Calls Try.prog 74 #[aggX ⟨11, xa, xb, col, c⟩, .slice (some ⟨b, o, none⟩) n1 c1, vr] w fun e w' => e = .returned (aggG (gbool (k1 == 0))) ∧ Below w.heap.size w w' := by
  have lb : b < w.heap.size := World.block_lt_of_cell? w _ p0
  have lb1 : b < w.heap.size + 1 := by omega
  have lb2 : b < w.heap.size + 1 + 1 := by omega
  obtain ⟨ck, cn, cs⟩ := c
  unfold aggX
  dsimp only
  go_enter Try.func74, Try.ntmps74
  go_wp2_with fail
  refine (boolean_ag (k1 == 0) _).mono ?_
  rintro e w3 ⟨rfl, hb3⟩
  have hB3 := below_keep (below_alloc_two w _ _) hb3
  obtain ⟨⟨d0, d1, d2⟩, f0, f1, f2⟩ := box_three (box_kept (heap2_1 w _ _) hb3)
  have hz3 : w.heap.size + 1 < w3.heap.size := by have := hb3.size; simp at this; omega
  clear hb3
  go_wp2_with fail
  exact bodyPost_ret (v := .agg #[.int .i64 3, .int .i64 (b2i (k1 == 0)), .string ⟨#[]⟩]) (by simp [results, Try.results74, go_sem, d0, d1, d2]) rfl ⟨rfl, ((hB3.setCell (Nat.le_succ _) _).setCell (Nat.le_succ _) _).setCell (Nat.le_succ _) _⟩
end Go.Proofs.Ytfmbbfidjcgeiaa

namespace Go.Proofs.Ytfmbbfidjcgeiaa
open Go.RowKit Go.Lib Go.Shelf

theorem vAt_set3 {W : World} {p q1 q2 q3 : Addr} {u1 u2 u3 v : Value} (h : W.cell? p = some v) : (((W.setCell q1 u1).setCell q2 u2).setCell q3 u3).cell? p = some (vAt (((W.setCell q1 u1).setCell q2 u2).setCell q3 u3) p) := vAt_set (vAt_set (vAt_set h))
theorem cell_set3 {W : World} {p q1 q2 q3 : Addr} {u1 u2 u3 v : Value} (h : W.cell? p = some v) (h1 : q1.block ≠ p.block) (h2 : q2.block = q1.block) (h3 : q3.block = q1.block) : (((W.setCell q1 u1).setCell q2 u2).setCell q3 u3).cell? p = some v := by
  rw [World.cell?_setCell_far _ _ _ _ (by rw [h3]; exact h1), World.cell?_setCell_far _ _ _ _ (by rw [h2]; exact h1), World.cell?_setCell_far _ _ _ _ h1]
  exact h
theorem below_set3 {w W : World} {q1 q2 q3 : Addr} {u1 u2 u3 : Value} (h : Below w.heap.size w W) (h1 : w.heap.size ≤ q1.block) (h2 : w.heap.size ≤ q2.block) (h3 : w.heap.size ≤ q3.block) : Below w.heap.size w (((W.setCell q1 u1).setCell q2 u2).setCell q3 u3) :=
  ((h.setCell h1 _).setCell h2 _).setCell h3 _
theorem frozen_set3 {W : World} {p q1 q2 q3 : Addr} {u1 u2 u3 : Value} (h : W.frozen? p = false) : (((W.setCell q1 u1).setCell q2 u2).setCell q3 u3).frozen? p = false := by simp [h]
theorem heap2_1d (w : World) (c1 c2 : Obj) : ((w.alloc c1).alloc c2).drew.heap[w.heap.size + 1]? = some c2 := heap2_1 w c1 c2
theorem size_set3 {n : Nat} {W : World} {q1 q2 q3 : Addr} {u1 u2 u3 : Value} (h : n < W.heap.size) : n < (((W.setCell q1 u1).setCell q2 u2).setCell q3 u3).heap.size := by simpa [World.setCell] using h
set_option maxHeartbeats 4000000 in
set_option maxRecDepth 100000 in
theorem apply_arith (op : Int) (ho : op = 3 ∨ op = 4 ∨ op = 5) (b o n1 c1 : Nat) (vr : Value) (xa xb col : Int) (c : GVal) (k1 m1 k2 m2 : Int) (s1 s2 : ByteArray) (w : World) (hn : 1 < n1) (h63 : n1 ≤ 9223372036854775807) (hm1 : In64 m1) (hm2 : In64 m2)
    (p0 : w.cell? ⟨b, o, none⟩ = some (.int .i64 k1)) (p1 : w.cell? ⟨b, o + 1, none⟩ = some (.int .i64 m1)) (p2 : w.cell? ⟨b, o + 2, none⟩ = some (.string s1))
    (q0 : w.cell? ⟨b, o + 3, none⟩ = some (.int .i64 k2)) (q1 : w.cell? ⟨b, o + 3 + 1, none⟩ = some (.int .i64 m2)) (q2 : w.cell? ⟨b, o + 3 + 2, none⟩ = some (.string s2)) :
    Calls Try.prog 74 #[aggX ⟨op, xa, xb, col, c⟩, .slice (some ⟨b, o, none⟩) n1 c1, vr] w fun e w' => e = .returned (aggG (arithG op ⟨k1, m1, s1⟩ ⟨k2, m2, s2⟩)) ∧ Below w.heap.size w w' := by
  have lb : b < w.heap.size := World.block_lt_of_cell? w _ p0
  have hn0 : 0 < n1 := by omega
  have hn1 : (1 : Int) ≤ (n1 : Int) - 1 := by omega
  have hn2 : (1 : Int) < (n1 : Int) := by omega
  have hn3 : ¬ (n1 : Int) ≤ 1 := by omega
  have hn4 : ¬ n1 ≤ 1 := by omega
  have HA : ∀ W, Hid (Calls Try.prog 98 #[.int .i64 op, .agg #[.int .i64 k1, .int .i64 m1, .string s1], .agg #[.int .i64 k2, .int .i64 m2, .string s2]] W fun e w' => e = .returned (aggG (arithG op ⟨k1, m1, s1⟩ ⟨k2, m2, s2⟩)) ∧ Below W.heap.size W w') := fun W => arith_any op ⟨k1, m1, s1⟩ ⟨k2, m2, s2⟩ ho hm1 hm2 W
  obtain ⟨ck, cn, cs⟩ := c
  obtain ⟨y, hy⟩ : ∃ y, y = arithG op ⟨k1, m1, s1⟩ ⟨k2, m2, s2⟩ := ⟨_, rfl⟩
  rw [← hy]
  rw [← hy] at HA
  clear hy hm1 hm2
  obtain ⟨ky, ny, sy⟩ := y
  unfold aggX
  unfold aggG at HA ⊢
  dsimp only at HA ⊢
  have hB0 := below_alloc_two w (.cells #[.int .i64 op, .int .i64 xa, .int .i64 xb, .int .i64 col, .int .i64 ck, .int .i64 cn, .string cs] 99) (.cells #[.int .i64 0, .int .i64 0, .string ⟨#[]⟩] 41)
  have hz0 : w.heap.size + 1 < ((w.alloc (.cells #[.int .i64 op, .int .i64 xa, .int .i64 xb, .int .i64 col, .int .i64 ck, .int .i64 cn, .string cs] 99)).alloc (.cells #[.int .i64 0, .int .i64 0, .string ⟨#[]⟩] 41)).heap.size := by simp
  have d0 : ((w.alloc (.cells #[.int .i64 op, .int .i64 xa, .int .i64 xb, .int .i64 col, .int .i64 ck, .int .i64 cn, .string cs] 99)).alloc (.cells #[.int .i64 0, .int .i64 0, .string ⟨#[]⟩] 41)).cell? ⟨w.heap.size, 0, none⟩ = some (.int .i64 op) := by simp [World.cell?, heap_alloc_old' w (.cells #[.int .i64 op, .int .i64 xa, .int .i64 xb, .int .i64 col, .int .i64 ck, .int .i64 cn, .string cs] 99) (.cells #[.int .i64 0, .int .i64 0, .string ⟨#[]⟩] 41)]
  obtain ⟨⟨r0, r1, r2⟩, f0, f1, f2⟩ := box_three (heap2_1 w (.cells #[.int .i64 op, .int .i64 xa, .int .i64 xb, .int .i64 col, .int .i64 ck, .int .i64 cn, .string cs] 99) (.cells #[.int .i64 0, .int .i64 0, .string ⟨#[]⟩] 41))
  replace r0 := vAt_of r0
  replace r1 := vAt_of r1
  replace r2 := vAt_of r2
  replace p0 := cell_keep hB0 p0
  replace p1 := cell_keep hB0 p1
  replace p2 := cell_keep hB0 p2
  replace q0 := cell_keep hB0 q0
  replace q1 := cell_keep hB0 q1
  replace q2 := cell_keep hB0 q2
  have lb1 : w.heap.size ≠ b := by omega
  have lb2 : w.heap.size + 1 ≠ b := by omega
  have lb3 : w.heap.size + 1 ≠ w.heap.size := by omega
  rcases ho with rfl | rfl | rfl
  · go_enter Try.func74, Try.ntmps74
    go_wp2_with fail
    go_region_held3 (fun W => Below w.heap.size w W ∧ w.heap.size + 1 < W.heap.size ∧ W.cell? ⟨w.heap.size, 0, none⟩ = some (.int .i64 3)
        ∧ W.cell? ⟨b, o, none⟩ = some (.int .i64 k1) ∧ W.cell? ⟨b, o + 1, none⟩ = some (.int .i64 m1) ∧ W.cell? ⟨b, o + 2, none⟩ = some (.string s1)
        ∧ W.cell? ⟨b, o + 3, none⟩ = some (.int .i64 k2) ∧ W.cell? ⟨b, o + 3 + 1, none⟩ = some (.int .i64 m2) ∧ W.cell? ⟨b, o + 3 + 2, none⟩ = some (.string s2)
        ∧ W.cell? ⟨w.heap.size + 1, 0, none⟩ = some (vAt W ⟨w.heap.size + 1, 0, none⟩) ∧ W.cell? ⟨w.heap.size + 1, 1, none⟩ = some (vAt W ⟨w.heap.size + 1, 1, none⟩) ∧ W.cell? ⟨w.heap.size + 1, 2, none⟩ = some (vAt W ⟨w.heap.size + 1, 2, none⟩)
        ∧ W.frozen? ⟨w.heap.size + 1, 0, none⟩ = false ∧ W.frozen? ⟨w.heap.size + 1, 1, none⟩ = false ∧ W.frozen? ⟨w.heap.size + 1, 2, none⟩ = false)
      ((go_split_ands; refine ⟨?_, ?_, ?_, ?_, ?_, ?_, ?_, ?_, ?_, ?_, ?_, ?_, ?_, ?_, ?_⟩ <;> first | (with_reducible assumption) | with_reducible exact Below.drew (by assumption) | with_reducible exact size_drew (by assumption) | with_reducible exact cell_drew (by assumption) | with_reducible exact vAt_drew (by assumption) | with_reducible exact frozen_drew (by assumption) | with_reducible exact below_keep (by assumption) (by assumption) | with_reducible exact size_keep (by assumption) (by assumption) | with_reducible exact cell_keep (by assumption) (by assumption) | with_reducible exact vAt_keep (by assumption) (by assumption) | with_reducible exact frozen_keep (by assumption) (by assumption) (by assumption) | with_reducible exact below_set3 (by assumption) (by simp) (by simp) (by simp) | with_reducible exact size_set3 (by assumption) | with_reducible exact cell_set3 (by assumption) (by simp [*]) rfl rfl | with_reducible exact vAt_set3 (by assumption) | with_reducible exact frozen_set3 (by assumption)))
      (first
        | (go_at_call 98; refine (HA _).out.mono ?_; rintro e wA ⟨rfl, hbA⟩))
    obtain ⟨⟨e0, e1, e2⟩, _⟩ := box_three (box_kept (heap2_1d w _ _) hbA)
    have hzA : w.heap.size + 1 < wA.heap.size := size_keep hbA (size_drew hz0)
    have hBA := below_keep hB0.drew hbA
    clear HA hB0 hz0 d0 r0 r1 r2 f0 f1 f2 p0 p1 p2 q0 q1 q2
    go_wp2_with fail
    exact bodyPost_ret (v := .agg #[.int .i64 ky, .int .i64 ny, .string sy]) (by simp [results, Try.results74, go_sem, e0, e1, e2]) rfl ⟨rfl, below_set3 hBA (Nat.le_succ _) (Nat.le_succ _) (Nat.le_succ _)⟩
  · go_enter Try.func74, Try.ntmps74
    go_wp2_with fail
    go_region_held3 (fun W => Below w.heap.size w W ∧ w.heap.size + 1 < W.heap.size ∧ W.cell? ⟨w.heap.size, 0, none⟩ = some (.int .i64 4)
        ∧ W.cell? ⟨b, o, none⟩ = some (.int .i64 k1) ∧ W.cell? ⟨b, o + 1, none⟩ = some (.int .i64 m1) ∧ W.cell? ⟨b, o + 2, none⟩ = some (.string s1)
        ∧ W.cell? ⟨b, o + 3, none⟩ = some (.int .i64 k2) ∧ W.cell? ⟨b, o + 3 + 1, none⟩ = some (.int .i64 m2) ∧ W.cell? ⟨b, o + 3 + 2, none⟩ = some (.string s2)
        ∧ W.cell? ⟨w.heap.size + 1, 0, none⟩ = some (vAt W ⟨w.heap.size + 1, 0, none⟩) ∧ W.cell? ⟨w.heap.size + 1, 1, none⟩ = some (vAt W ⟨w.heap.size + 1, 1, none⟩) ∧ W.cell? ⟨w.heap.size + 1, 2, none⟩ = some (vAt W ⟨w.heap.size + 1, 2, none⟩)
        ∧ W.frozen? ⟨w.heap.size + 1, 0, none⟩ = false ∧ W.frozen? ⟨w.heap.size + 1, 1, none⟩ = false ∧ W.frozen? ⟨w.heap.size + 1, 2, none⟩ = false)
      ((go_split_ands; refine ⟨?_, ?_, ?_, ?_, ?_, ?_, ?_, ?_, ?_, ?_, ?_, ?_, ?_, ?_, ?_⟩ <;> first | (with_reducible assumption) | with_reducible exact Below.drew (by assumption) | with_reducible exact size_drew (by assumption) | with_reducible exact cell_drew (by assumption) | with_reducible exact vAt_drew (by assumption) | with_reducible exact frozen_drew (by assumption) | with_reducible exact below_keep (by assumption) (by assumption) | with_reducible exact size_keep (by assumption) (by assumption) | with_reducible exact cell_keep (by assumption) (by assumption) | with_reducible exact vAt_keep (by assumption) (by assumption) | with_reducible exact frozen_keep (by assumption) (by assumption) (by assumption) | with_reducible exact below_set3 (by assumption) (by simp) (by simp) (by simp) | with_reducible exact size_set3 (by assumption) | with_reducible exact cell_set3 (by assumption) (by simp [*]) rfl rfl | with_reducible exact vAt_set3 (by assumption) | with_reducible exact frozen_set3 (by assumption)))
      (first
        | (go_at_call 98; refine (HA _).out.mono ?_; rintro e wA ⟨rfl, hbA⟩))
    obtain ⟨⟨e0, e1, e2⟩, _⟩ := box_three (box_kept (heap2_1d w _ _) hbA)
    have hzA : w.heap.size + 1 < wA.heap.size := size_keep hbA (size_drew hz0)
    have hBA := below_keep hB0.drew hbA
    clear HA hB0 hz0 d0 r0 r1 r2 f0 f1 f2 p0 p1 p2 q0 q1 q2
    go_wp2_with fail
    exact bodyPost_ret (v := .agg #[.int .i64 ky, .int .i64 ny, .string sy]) (by simp [results, Try.results74, go_sem, e0, e1, e2]) rfl ⟨rfl, below_set3 hBA (Nat.le_succ _) (Nat.le_succ _) (Nat.le_succ _)⟩
  · go_enter Try.func74, Try.ntmps74
    go_wp2_with fail
    go_region_held3 (fun W => Below w.heap.size w W ∧ w.heap.size + 1 < W.heap.size ∧ W.cell? ⟨w.heap.size, 0, none⟩ = some (.int .i64 5)
        ∧ W.cell? ⟨b, o, none⟩ = some (.int .i64 k1) ∧ W.cell? ⟨b, o + 1, none⟩ = some (.int .i64 m1) ∧ W.cell? ⟨b, o + 2, none⟩ = some (.string s1)
        ∧ W.cell? ⟨b, o + 3, none⟩ = some (.int .i64 k2) ∧ W.cell? ⟨b, o + 3 + 1, none⟩ = some (.int .i64 m2) ∧ W.cell? ⟨b, o + 3 + 2, none⟩ = some (.string s2)
        ∧ W.cell? ⟨w.heap.size + 1, 0, none⟩ = some (vAt W ⟨w.heap.size + 1, 0, none⟩) ∧ W.cell? ⟨w.heap.size + 1, 1, none⟩ = some (vAt W ⟨w.heap.size + 1, 1, none⟩) ∧ W.cell? ⟨w.heap.size + 1, 2, none⟩ = some (vAt W ⟨w.heap.size + 1, 2, none⟩)
        ∧ W.frozen? ⟨w.heap.size + 1, 0, none⟩ = false ∧ W.frozen? ⟨w.heap.size + 1, 1, none⟩ = false ∧ W.frozen? ⟨w.heap.size + 1, 2, none⟩ = false)
      ((go_split_ands; refine ⟨?_, ?_, ?_, ?_, ?_, ?_, ?_, ?_, ?_, ?_, ?_, ?_, ?_, ?_, ?_⟩ <;> first | (with_reducible assumption) | with_reducible exact Below.drew (by assumption) | with_reducible exact size_drew (by assumption) | with_reducible exact cell_drew (by assumption) | with_reducible exact vAt_drew (by assumption) | with_reducible exact frozen_drew (by assumption) | with_reducible exact below_keep (by assumption) (by assumption) | with_reducible exact size_keep (by assumption) (by assumption) | with_reducible exact cell_keep (by assumption) (by assumption) | with_reducible exact vAt_keep (by assumption) (by assumption) | with_reducible exact frozen_keep (by assumption) (by assumption) (by assumption) | with_reducible exact below_set3 (by assumption) (by simp) (by simp) (by simp) | with_reducible exact size_set3 (by assumption) | with_reducible exact cell_set3 (by assumption) (by simp [*]) rfl rfl | with_reducible exact vAt_set3 (by assumption) | with_reducible exact frozen_set3 (by assumption)))
      (first
        | (go_at_call 98; refine (HA _).out.mono ?_; rintro e wA ⟨rfl, hbA⟩))
    obtain ⟨⟨e0, e1, e2⟩, _⟩ := box_three (box_kept (heap2_1d w _ _) hbA)
    have hzA : w.heap.size + 1 < wA.heap.size := size_keep hbA (size_drew hz0)
    have hBA := below_keep hB0.drew hbA
    clear HA hB0 hz0 d0 r0 r1 r2 f0 f1 f2 p0 p1 p2 q0 q1 q2
    go_wp2_with fail
    exact bodyPost_ret (v := .agg #[.int .i64 ky, .int .i64 ny, .string sy]) (by simp [results, Try.results74, go_sem, e0, e1, e2]) rfl ⟨rfl, below_set3 hBA (Nat.le_succ _) (Nat.le_succ _) (Nat.le_succ _)⟩
end Go.Proofs.Ytfmbbfidjcgeiaa

namespace Go.Proofs.Ytfmbbfidjcgeiaa
open Go.RowKit Go.Lib Go.Shelf

set_option maxHeartbeats 4000000 in
set_option maxRecDepth 100000 in
theorem apply_unknown (op : Int) (ho : arity op < 0) (va vr : Value) (xa xb col : Int) (c : GVal) (w : World) :
    Calls Try.prog 74 #[aggX ⟨op, xa, xb, col, c⟩, va, vr] w fun e w' => e = .returned (aggG gnull) ∧ Below w.heap.size w w' := by
  have hop : op < 1 ∨ 11 < op := by have := arity_cases op; omega
  have b1 : (op == 1) = false := by rw [beq_eq_false_iff_ne]; omega
  have b2 : (op == 2) = false := by rw [beq_eq_false_iff_ne]; omega
  have b3 : (op == 3) = false := by rw [beq_eq_false_iff_ne]; omega
  have b4 : (op == 4) = false := by rw [beq_eq_false_iff_ne]; omega
  have b5 : (op == 5) = false := by rw [beq_eq_false_iff_ne]; omega
  have b6 : (op == 6) = false := by rw [beq_eq_false_iff_ne]; omega
  have b7 : (op == 7) = false := by rw [beq_eq_false_iff_ne]; omega
  have b8 : (op == 8) = false := by rw [beq_eq_false_iff_ne]; omega
  have b9 : (op == 9) = false := by rw [beq_eq_false_iff_ne]; omega
  have b10 : (op == 10) = false := by rw [beq_eq_false_iff_ne]; omega
  have b11 : (op == 11) = false := by rw [beq_eq_false_iff_ne]; omega
  clear ho hop
  obtain ⟨ck, cn, cs⟩ := c
  unfold aggX
  dsimp only
  go_enter Try.func74, Try.ntmps74
  go_wp2_with fail
  exact bodyPost_ret (v := aggG gnull) (by simp [aggG, gnull, results, Try.results74, go_sem]) rfl ⟨rfl, by first | exact below_alloc_two w _ _ | exact (below_alloc_two w _ _).setCell (by simp) _⟩
end Go.Proofs.Ytfmbbfidjcgeiaa
