/- 'append(s, x...)' of a whole slice, onto a row of the call's own. Of no program. No condition. -/
import Derived.Test.YthjgnpicnpfmjaaDoorEl
import Derived.Laws.OwnMore
namespace Go.Proofs.YthjgnpicnpfmjaaDoor
open Go.RowKit Go.Lib
section
variable {P : Program} {α : Type}
theorem Sl.cells_of (E : El P α) (w : World) (G : Nat → Prop) (b : Nat) (l : List α) : ∀ o, (∀ i x, l[i]? = some x → ∃ cs, E.is w G x cs ∧ ∀ j u, cs[j]? = some u → w.cell? ⟨b, o + i * E.size + j, none⟩ = some u) →
    ∃ news, Els E w G l news ∧ ∀ j u, news[j]? = some u → w.cell? ⟨b, o + j, none⟩ = some u := by
  induction l with
  | nil => intro o _; exact ⟨[], Els.nil _ _ _, by simp⟩
  | cons x l ih =>
    intro o h
    obtain ⟨cs, h1, h2⟩ := h 0 x rfl
    obtain ⟨news, h3, h4⟩ := ih (o + E.size) (fun i y hy => by
      obtain ⟨ds, h5, h6⟩ := h (i + 1) y (by simpa using hy)
      refine ⟨ds, h5, fun j u hu => ?_⟩
      have := h6 j u hu
      rw [Nat.add_mul, Nat.one_mul] at this
      rw [show o + E.size + i * E.size + j = o + (i * E.size + E.size) + j by omega]; exact this)
    refine ⟨cs ++ news, Els.cons h1 h3, fun j u hu => ?_⟩
    have hl := E.len h1
    rcases Nat.lt_or_ge j cs.length with hj | hj
    · rw [List.getElem?_append_left hj] at hu
      have := h2 j u hu
      rwa [Nat.zero_mul, Nat.add_zero] at this
    · rw [List.getElem?_append_right hj] at hu
      have := h4 _ u hu
      rwa [hl, show o + E.size + (j - E.size) = o + j by omega] at this
/-- What 'append' of a slice onto a row of the call's own leaves. -/
structure Joined (E : El P α) (base : Nat) (w0 w' : World) (v v' : Value) (l : List α) : Prop where
  own : Own E w' base v' l
  below : Below base w0 w'
  kept : Kept (fun k => some k = v.ownBlock) w0 w'
  place : v'.ownBlock = v.ownBlock ∨ ∃ m, v'.ownBlock = some m ∧ w0.heap.size ≤ m
theorem run_append_none_c {w : World} (base : Nat) (t ty e : TypeId) (i : TypeInfo) (size c : Nat) (ht : P.underlying t = some (.slice e)) (hi : P.info? e = some i)
    (v : Value) (n : Nat) (xs : List Value) (hown : w.ownsRow base e size v n xs) :
    (Builtin.append_ #[t, t] ty #[v, .slice none 0 c]).run P w = .ok v w := by
  rcases hown.2 with ⟨rfl, rfl⟩ | ⟨g, cap, cur, rfl, _, _, hnc, _⟩
  · simp [Builtin.append_, run_underlying ht, sizeOf, typeInfo, hi, Builtin.lenOf, Builtin.firstCells]
  · simp [Builtin.append_, run_underlying ht, sizeOf, typeInfo, hi, Builtin.lenOf, Builtin.firstCells, hnc, storeCells]
theorem wp_join {w : World} {o : Oper} {a : Act} {K : Act → World → Prop} {Q : Exit → Act → World → Prop} (s x : Operand) (t : TypeId)
    (ho : o.op = .call { callee := .builtin .append, args := #[s, x], argTypes := #[t, t] })
    (E : El P α) (ht : P.underlying t = some (.slice E.ty)) (base : Nat) (v u : Value) (l ys : List α) (hs : a.eval s = v) (hx : a.eval x = u) (hown : Own E w base v l) (hu : Sl E w (fun k => some k = v.ownBlock) u ys)
    (h63 : l.length + ys.length ≤ maxLen) (hbytes : (l.length + ys.length) * E.bytes ≤ 140737488355328) (hbase : base ≤ w.heap.size)
    (n : Nat) (hn : l.length + ys.length = n)
    (h : ∀ a' c' w', Joined E base w w' v (.slice a' n c') (l ++ ys) → K (a.put o.dst (.slice a' n c')) w') :
    o.wp P a w K Q := by
  subst hn
  obtain ⟨xs, h1, h2⟩ := hown
  obtain ⟨i, z, hi, hz, hsz, hby, hzs⟩ := E.info
  obtain ⟨hl, ao, c, rfl, hc, hp⟩ := hu
  obtain ⟨va, vc, rfl⟩ := own_shape h1
  have hrefl : l.length = l.length + ys.length → ys = [] := fun e => List.eq_nil_of_length_eq_zero (by omega)
  cases ao with
  | none =>
    have hy : ys.length = 0 := by
      rcases Nat.eq_zero_or_pos ys.length with h | h
      · exact h
      · obtain ⟨_, _, e, _⟩ := hp h; cases e
    have : ys = [] := List.eq_nil_of_length_eq_zero hy
    subst this
    have hrun := run_append_none_c (P := P) (w := w) base t o.type E.ty i E.size c ht hi _ l.length xs h1
    unfold Oper.wp execOp
    simp only [ho, resolve, invoke, builtin, Sem.run_bind, Sem.run_pure, Result.andThen_ok, List.map_toArray, List.map_cons, List.map_nil, hs, hx]
    rw [show (Builtin.append_ #[t, t] o.type #[.slice va l.length vc, .slice none ([] : List α).length c]).run P w = _ from hrun]
    exact h va vc w ⟨by rw [List.append_nil]; exact ⟨xs, h1, h2⟩, Below.refl _ _, ⟨Nat.le_refl _, fun _ _ _ => rfl⟩, .inl rfl⟩
  | some ad =>
    have key : ∃ news, Els E w (fun k => some k = (Value.slice va l.length vc).ownBlock) ys news ∧ ∀ j u, news[j]? = some u → w.cell? (ad.add j) = some u := by
      rcases Nat.eq_zero_or_pos ys.length with h | h
      · have : ys = [] := List.eq_nil_of_length_eq_zero h
        subst this
        exact ⟨[], Els.nil _ _ _, by simp⟩
      · obtain ⟨b, oo, e, _, h6⟩ := hp h
        cases e
        obtain ⟨news, h7, h8⟩ := Sl.cells_of E w _ b ys oo h6
        exact ⟨news, h7, fun j u hu => by rw [Addr.add_lit]; exact h8 j u hu⟩
    obtain ⟨news, h7, h8⟩ := key
    obtain ⟨v', w', hr, g2, g3, _, g5⟩ := run_append_own_at (P := P) w base t o.type E.ty i z E.size E.bytes ht hi hz hsz hby hzs E.pos _ l.length xs h1 ad ys.length c news h7.1 h8 h7.cells h63 hbytes hbase
    obtain ⟨a', c', rfl⟩ := own_shape g2
    unfold Oper.wp execOp
    simp only [ho, resolve, invoke, builtin, Sem.run_bind, Sem.run_pure, Result.andThen_ok, List.map_toArray, List.map_cons, List.map_nil, hs, hx, hr]
    have hm := Els.moved (Els.append ⟨h1.1, h2⟩ h7) g3 (g5.imp id (fun e => ⟨_, e, Nat.le_refl _⟩))
    exact h a' c' w' ⟨⟨xs ++ news, by rw [List.length_append]; exact g2, hm.2⟩, (Below.refl base w).grown g3 hbase (fun k hk => (h1.lt k hk).1), .of_grown g3, g5.imp id (fun e => ⟨_, e, Nat.le_refl _⟩)⟩
theorem wpList_join {w : World} {ops : Array Oper} {rest : List Oper} {o : Oper} {a : Act} {Q : Exit → Act → World → Prop} (hgd : o.guard = none) (s x : Operand) (t : TypeId)
    (ho : o.op = .call { callee := .builtin .append, args := #[s, x], argTypes := #[t, t] })
    (E : El P α) (ht : P.underlying t = some (.slice E.ty)) (base : Nat) (v u : Value) (l ys : List α) (hs : a.eval s = v) (hx : a.eval x = u) (hown : Own E w base v l) (hu : Sl E w (fun k => some k = v.ownBlock) u ys)
    (h63 : l.length + ys.length ≤ maxLen) (hbytes : (l.length + ys.length) * E.bytes ≤ 140737488355328) (hbase : base ≤ w.heap.size)
    (n : Nat) (hn : l.length + ys.length = n)
    (h : ∀ a' c' w', Joined E base w w' v (.slice a' n c') (l ++ ys) → wpList P ops Q rest (a.put o.dst (.slice a' n c')) w') :
    wpList P ops Q (o :: rest) a w :=
  wpList_plain hgd fun _ hK => wp_join s x t ho E ht base v u l ys hs hx hown hu h63 hbytes hbase n hn fun a' c' w' hp => hK _ _ (h a' c' w' hp)
theorem step_join {w : World} {ops : Array Oper} {o : Oper} {a : Act} {K : Act → World → Prop} {Q : Exit → Act → World → Prop} {F : Prop} (hgd : o.guard = none) (s x : Operand) (t : TypeId)
    (ho : o.op = .call { callee := .builtin .append, args := #[s, x], argTypes := #[t, t] })
    (E : El P α) (ht : P.underlying t = some (.slice E.ty)) (base : Nat) (v u : Value) (l ys : List α) (hs : a.eval s = v) (hx : a.eval x = u) (hown : Own E w base v l) (hu : Sl E w (fun k => some k = v.ownBlock) u ys)
    (h63 : l.length + ys.length ≤ maxLen) (hbytes : (l.length + ys.length) * E.bytes ≤ 140737488355328) (hbase : base ≤ w.heap.size)
    (n : Nat) (hn : l.length + ys.length = n)
    (h : ∀ a' c' w', Joined E base w w' v (.slice a' n c') (l ++ ys) → K (a.put o.dst (.slice a' n c')) w') :
    if Region.wanted o (yielded ops a.tmps) = true then Oper.wp P o a w K Q else F := by
  have hw : Region.wanted o (yielded ops a.tmps) = true := by simp [Region.wanted, hgd]
  rw [if_pos hw]
  exact wp_join s x t ho E ht base v u l ys hs hx hown hu h63 hbytes hbase n hn h
/-- A slice that was there before the call is clear of a row of the call's own. -/
theorem Sl.clear {E : El P α} {w0 w : World} {G : Nat → Prop} {v u : Value} {l ys : List α} {base : Nat} (hu : Sl E w0 G u ys) (hb : Below w0.heap.size w0 w) (hown : Own E w base v l) (hbase : w0.heap.size ≤ base) : Sl E w (fun k => some k = v.ownBlock) u ys :=
  ((hu.old (Nat.le_refl _)).below hb).mono (fun k _ hk => Nat.le_trans hbase (hown.lt k hk.symm).1)
/-- 'append(s, x, ..)' at a step of a region that draws its order, the elements in a block that was made before. -/
theorem step_push_at {w : World} {ops : Array Oper} {o : Oper} {a : Act} {K : Act → World → Prop} {Q : Exit → Act → World → Prop} {F : Prop} (hgd : o.guard = none) (s x : Operand) (t : TypeId)
    (ho : o.op = .call { callee := .builtin .append, args := #[s, x], argTypes := #[t, t] })
    (E : El P α) (ht : P.underlying t = some (.slice E.ty)) (base : Nat) (v : Value) (l : List α) (hs : a.eval s = v) (hown : Own E w base v l) (ys : List α) (news : List Value) (his : Els E w (fun k => some k = v.ownBlock) ys news)
    (ad : Addr) (n c : Nat) (hn : ys.length = n) (hx : a.eval x = .slice (some ad) n c) (hnews : ∀ j u, news[j]? = some u → w.cell? (ad.add j) = some u) (hm : 0 < n) (h63 : l.length + n ≤ maxLen) (hbytes : (l.length + n) * E.bytes ≤ 140737488355328) (hbase : base ≤ w.heap.size)
    (h : ∀ g cap w', Pushed E base w w' v (l ++ ys) g cap → K (a.put o.dst (.slice (some ⟨g, 0, none⟩) (l.length + n) cap)) w') :
    if Region.wanted o (yielded ops a.tmps) = true then Oper.wp P o a w K Q else F := by
  have hw : Region.wanted o (yielded ops a.tmps) = true := by simp [Region.wanted, hgd]
  rw [if_pos hw]
  subst hn
  exact wp_push s x t ho E ht base v l hs hown ys news his ad c hx hnews hm h63 hbytes hbase h
theorem Sl.takeS {E : El P α} {w : World} {G : Nat → Prop} {a : Option Addr} {n c k : Nat} {l : List α} (h : Sl E w G (.slice a n c) l) (hk : k ≤ n) : Sl E w G (.slice a k c) (l.take k) := by
  obtain ⟨h1, a', c', e, h3, h4⟩ := h
  cases e
  have hl : (l.take k).length = k := by rw [List.length_take]; omega
  refine ⟨by omega, a, c, by rw [hl], by omega, fun hn => ?_⟩
  obtain ⟨b, o, rfl, h5, h6⟩ := h4 (by omega)
  refine ⟨b, o, rfl, h5, fun i x hx => h6 i x ?_⟩
  rw [List.getElem?_take] at hx
  split at hx
  · exact hx
  · cases hx
theorem Sl.dropS {E : El P α} {w : World} {G : Nat → Prop} {a : Option Addr} {n c k : Nat} {l : List α} (h : Sl E w G (.slice a n c) l) (hk : k ≤ n) : Sl E w G (.slice (a.map fun x => x.add (k * E.size)) (n - k) (c - k)) (l.drop k) := by
  obtain ⟨h1, a', c', e, h3, h4⟩ := h
  cases e
  have hl : (l.drop k).length = l.length - k := List.length_drop
  refine ⟨by omega, _, _, by rw [hl], by omega, fun hn => ?_⟩
  obtain ⟨b, o, rfl, h5, h6⟩ := h4 (by omega)
  refine ⟨b, o + k * E.size, by simp [Addr.add_lit], h5, fun i x hx => ?_⟩
  rw [List.getElem?_drop] at hx
  obtain ⟨cs, h7, h8⟩ := h6 _ x hx
  refine ⟨cs, h7, fun j u hu => ?_⟩
  have := h8 j u hu
  rw [Nat.add_mul, ← Nat.add_assoc] at this
  exact this
/-- An empty slice. -/
theorem Sl.none_left {E : El P α} {w : World} {G : Nat → Prop} {a : Option Addr} {n c k : Nat} {l : List α} (h : l.length ≤ k) (hn : n = 0) : Sl E w G (.slice a n c) (l.drop k) := by
  subst hn
  rw [List.drop_of_length_le h]
  exact Sl.nil _ _ _ _ _
theorem Sl.len {E : El P α} {w : World} {G : Nat → Prop} {a : Option Addr} {n c : Nat} {l : List α} (h : Sl E w G (.slice a n c) l) : l.length = n := by
  obtain ⟨_, _, _, e, _⟩ := h; cases e; rfl
theorem Sl.cap {E : El P α} {w : World} {G : Nat → Prop} {a : Option Addr} {n c : Nat} {l : List α} (h : Sl E w G (.slice a n c) l) : n ≤ c := by
  obtain ⟨_, _, _, e, h, _⟩ := h; cases e; exact h
end
end Go.Proofs.YthjgnpicnpfmjaaDoor
