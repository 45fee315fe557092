/- How data lie in memory: kinds of elements, slices of them, slices of the call's own, and 'append' of one element. Of no program. No condition. -/
import Derived.Test.YthjgnpicnpfmjaaDoorBase
import Derived.Maps.AppendAt
import Derived.Deep.AppendLies
namespace Go.Proofs.YthjgnpicnpfmjaaDoor
open Go.RowKit Go.Lib

/-- Every block outside G is as it was. -/
def Kept (G : Nat → Prop) (w w' : World) : Prop := w.heap.size ≤ w'.heap.size ∧ ∀ k, k < w.heap.size → ¬ G k → w'.heap[k]? = w.heap[k]?
theorem Kept.of_below {G : Nat → Prop} {w w' : World} (h : Below w.heap.size w w') : Kept G w w' := ⟨h.size, fun k hk _ => h.block k hk⟩
theorem Kept.of_grown {w w' : World} {g : Option Nat} (h : w.grownBy w' g) : Kept (fun k => some k = g) w w' := ⟨h.size, fun k hk hn => h.block k hk hn⟩
theorem Kept.cell {G : Nat → Prop} {w w' : World} (h : Kept G w w') {p : Addr} {u : Value} (hp : ¬ G p.block) (hc : w.cell? p = some u) : w'.cell? p = some u := by
  rw [World.cell?_of_block (h.2 _ (World.block_lt_of_cell? w _ hc) hp)]; exact hc

/-- A kind of elements: its type's row, and when some cells are a datum; what it leads to lies in no block of G. -/
structure El (P : Program) (α : Type) where
  ty : TypeId
  size : Nat
  bytes : Nat
  pos : 0 < size
  info : ∃ i z, P.info? ty = some i ∧ i.zero = some z ∧ i.size = size ∧ i.bytes = bytes ∧ z.cells.size = size
  is : World → (Nat → Prop) → α → List Value → Prop
  len : ∀ {w G x cs}, is w G x cs → cs.length = size
  one : ∀ {w G x cs}, is w G x cs → ∀ u ∈ cs, u.oneCell' = true
  mono : ∀ {w G G' x cs}, is w G x cs → (∀ k, k < w.heap.size → G' k → G k) → is w G' x cs
  kept : ∀ {w w' G x cs}, is w G x cs → Kept G w w' → is w' G x cs
section
variable {P : Program} {α : Type}
theorem El.below (E : El P α) {w w' : World} {G : Nat → Prop} {x : α} {cs : List Value} (h : E.is w G x cs) (hb : Below w.heap.size w w') : E.is w' G x cs := E.kept h (.of_below hb)
/-- Whatever was there before lies in no newer block. -/
theorem El.old (E : El P α) {w : World} {x : α} {cs : List Value} {G : Nat → Prop} (h : E.is w G x cs) {m : Nat} (hm : w.heap.size ≤ m) : E.is w (fun k => m ≤ k) x cs := E.mono h (fun k hk h => by omega)
/-- No block is barred. -/
abbrev free : Nat → Prop := fun _ => False

/-- Where a slice starts. -/
def _root_.Go.Value.sliceAt : Value → Option Addr
  | .slice a _ _ => a
  | _ => none
/-- A slice of such elements. -/
def Sl (E : El P α) (w : World) (G : Nat → Prop) (v : Value) (l : List α) : Prop :=
  l.length ≤ 9223372036854775807 ∧ ∃ (a : Option Addr) (c : Nat), v = .slice a l.length c ∧ l.length ≤ c ∧
    (0 < l.length → ∃ b o, a = some ⟨b, o, none⟩ ∧ ¬ G b ∧ ∀ i x, l[i]? = some x → ∃ cs, E.is w G x cs ∧ ∀ j u, cs[j]? = some u → w.cell? ⟨b, o + i * E.size + j, none⟩ = some u)
theorem Sl.kept {E : El P α} {w w' : World} {G : Nat → Prop} {v : Value} {l : List α} (h : Sl E w G v l) (hk : Kept G w w') : Sl E w' G v l := by
  obtain ⟨h1, a, c, h2, h3, h4⟩ := h
  refine ⟨h1, a, c, h2, h3, fun hn => ?_⟩
  obtain ⟨b, o, h5, hg, h6⟩ := h4 hn
  refine ⟨b, o, h5, hg, fun i x hx => ?_⟩
  obtain ⟨cs, h7, h8⟩ := h6 i x hx
  exact ⟨cs, E.kept h7 hk, fun j u hu => hk.cell hg (h8 j u hu)⟩
theorem Sl.below {E : El P α} {w w' : World} {G : Nat → Prop} {v : Value} {l : List α} (h : Sl E w G v l) (hb : Below w.heap.size w w') : Sl E w' G v l := h.kept (.of_below hb)
theorem Sl.mono {E : El P α} {w : World} {G G' : Nat → Prop} {v : Value} {l : List α} (h : Sl E w G v l) (hm : ∀ k, k < w.heap.size → G' k → G k) : Sl E w G' v l := by
  obtain ⟨h1, a, c, h2, h3, h4⟩ := h
  refine ⟨h1, a, c, h2, h3, fun hn => ?_⟩
  obtain ⟨b, o, h5, hg, h6⟩ := h4 hn
  refine ⟨b, o, h5, fun hb => ?_, fun i x hx => ?_⟩
  · obtain ⟨cs, h7, h8⟩ := h6 0 _ (List.getElem?_eq_getElem hn)
    have hl := E.len h7
    have hp := E.pos
    have := World.block_lt_of_cell? w _ (h8 0 _ (List.getElem?_eq_getElem (by omega)))
    exact hg (hm b this hb)
  · obtain ⟨cs, h7, h8⟩ := h6 i x hx
    exact ⟨cs, E.mono h7 hm, h8⟩
theorem Sl.free {E : El P α} {w : World} {G : Nat → Prop} {v : Value} {l : List α} (h : Sl E w G v l) : Sl E w free v l := h.mono (fun _ _ h => h.elim)
theorem Sl.old {E : El P α} {w : World} {G : Nat → Prop} {v : Value} {l : List α} (h : Sl E w G v l) {m : Nat} (hm : w.heap.size ≤ m) : Sl E w (fun k => m ≤ k) v l := h.mono (fun k hk h => by omega)
theorem Sl.shape {E : El P α} {w : World} {G : Nat → Prop} {v : Value} {l : List α} (h : Sl E w G v l) : ∃ a c, v = .slice a l.length c := by
  obtain ⟨_, a, c, h2, _⟩ := h; exact ⟨a, c, h2⟩
theorem Sl.at {E : El P α} {w : World} {G : Nat → Prop} {v : Value} {l : List α} (h : Sl E w G v l) {k : Nat} {x : α} (hk : l[k]? = some x) :
    ∃ b o cs, v.sliceAt = some ⟨b, o, none⟩ ∧ E.is w G x cs ∧ ∀ j u, cs[j]? = some u → w.cell? ⟨b, o + k * E.size + j, none⟩ = some u := by
  obtain ⟨_, a, c, rfl, _, h4⟩ := h
  have hl := (List.getElem?_eq_some_iff.1 hk).1
  obtain ⟨b, o, rfl, _, h6⟩ := h4 (by omega)
  obtain ⟨cs, h7, h8⟩ := h6 k x hk
  exact ⟨b, o, cs, rfl, h7, h8⟩
theorem Sl.nil (E : El P α) (w : World) (G : Nat → Prop) (c : Nat) (a : Option Addr) : Sl E w G (.slice a 0 c) [] := ⟨by simp, a, c, rfl, by simp, fun h => absurd h (by simp)⟩
theorem Sl.one {E : El P α} {w : World} {G : Nat → Prop} {v : Value} {l : List α} (h : Sl E w G v l) : v.oneCell' = true := by
  obtain ⟨a, c, rfl⟩ := h.shape; rfl

/-- Elements whose cells lead nowhere. -/
def El.flat (ty : TypeId) (size bytes : Nat) (pos : 0 < size) (info : ∃ i z, P.info? ty = some i ∧ i.zero = some z ∧ i.size = size ∧ i.bytes = bytes ∧ z.cells.size = size)
    (f : α → List Value) (hf : ∀ x, (f x).length = size) (h1 : ∀ x, ∀ u ∈ f x, u.oneCell' = true) : El P α where
  ty := ty
  size := size
  bytes := bytes
  pos := pos
  info := info
  is := fun _ _ x cs => cs = f x
  len := fun h => h ▸ hf _
  one := fun h => h ▸ h1 _
  mono := fun h _ => h
  kept := fun h _ => h

/-- A slice of such elements, a row of the call's own. -/
def Own (E : El P α) (w : World) (B : Nat) (v : Value) (l : List α) : Prop :=
  ∃ xs : List Value, w.ownsRow B E.ty E.size v l.length xs ∧ ∀ i x, l[i]? = some x → E.is w (fun k => some k = v.ownBlock) x ((xs.drop (i * E.size)).take E.size)
theorem Own.nil (E : El P α) (w : World) (B : Nat) : Own E w B (.slice none 0 0) [] := ⟨[], World.ownsRow_nil _ _ _ _, by simp⟩
theorem Own.below {E : El P α} {w w' : World} {B : Nat} {v : Value} {l : List α} (h : Own E w B v l) (hb : Below w.heap.size w w') : Own E w' B v l := by
  obtain ⟨xs, h1, h2⟩ := h
  exact ⟨xs, own_below h1 hb, fun i x hx => E.below (h2 i x hx) hb⟩
theorem Own.mono {E : El P α} {w : World} {B B' : Nat} {v : Value} {l : List α} (h : Own E w B v l) (hb : B' ≤ B) : Own E w B' v l := by
  obtain ⟨xs, h1, h2⟩ := h
  refine ⟨xs, ⟨h1.1, h1.2.imp id ?_⟩, h2⟩
  rintro ⟨g, cap, cur, e, hg, r⟩
  exact ⟨g, cap, cur, e, Nat.le_trans hb hg, r⟩
theorem Own.shape {E : El P α} {w : World} {B : Nat} {v : Value} {l : List α} (h : Own E w B v l) : ∃ a c, v = .slice a l.length c := by
  obtain ⟨xs, h1, _⟩ := h; exact own_shape h1
theorem Own.lt {E : El P α} {w : World} {B : Nat} {v : Value} {l : List α} (h : Own E w B v l) : ∀ k, v.ownBlock = some k → B ≤ k ∧ k < w.heap.size := by
  obtain ⟨xs, h1, _⟩ := h; exact h1.lt
theorem Own.len {E : El P α} {w : World} {B : Nat} {v : Value} {l : List α} (h : Own E w B v l) : l.length ≤ 9223372036854775807 := by
  obtain ⟨xs, h1, _⟩ := h; exact (own_reads h1).2.1
theorem Own.sl {E : El P α} {w : World} {B : Nat} {v : Value} {l : List α} (h : Own E w B v l) : Sl E w free v l := by
  obtain ⟨xs, h1, h2⟩ := h
  obtain ⟨h3, h4, a, c, rfl, h5, h6⟩ := own_reads h1
  refine ⟨h4, a, c, rfl, h5, fun hn => ?_⟩
  obtain ⟨b, o, rfl, h7⟩ := h6 hn
  refine ⟨b, o, rfl, id, fun i x hx => ⟨_, E.mono (h2 i x hx) (fun _ _ h => h.elim), fun j u hu => ?_⟩⟩
  rw [List.getElem?_take] at hu
  split at hu
  · rw [List.getElem?_drop] at hu
    rw [Nat.add_assoc]; exact h7 _ u hu
  · cases hu
/-- Where the data under an element's cells are newer than the row, or older than the call. -/
theorem own_clear {w : World} {B m : Nat} {v : Value} (hv : ∀ k, v.ownBlock = some k → B ≤ k ∧ k < m) : ∀ k, k < w.heap.size → some k = v.ownBlock → (k < m ∧ B ≤ k) := fun k _ h => ⟨(hv k h.symm).2, (hv k h.symm).1⟩
/-- Some cells are these elements, one behind the other. -/
def Els (E : El P α) (w : World) (G : Nat → Prop) (l : List α) (xs : List Value) : Prop := xs.length = l.length * E.size ∧ ∀ i x, l[i]? = some x → E.is w G x ((xs.drop (i * E.size)).take E.size)
theorem Els.one {E : El P α} {w : World} {G : Nat → Prop} {y : α} {cs : List Value} (h : E.is w G y cs) : Els E w G [y] cs := by
  have hn : cs.length = E.size := E.len h
  refine ⟨by simp [hn], fun i x hx => ?_⟩
  cases i with
  | zero => simp at hx; subst hx; rw [Nat.zero_mul, List.drop_zero, List.take_of_length_le (by omega)]; exact h
  | succ i => simp at hx
theorem Els.append {E : El P α} {w : World} {G : Nat → Prop} {l m : List α} {xs ys : List Value} (h : Els E w G l xs) (k : Els E w G m ys) : Els E w G (l ++ m) (xs ++ ys) := by
  refine ⟨by rw [List.length_append, List.length_append, h.1, k.1, Nat.add_mul], fun i x hx => ?_⟩
  rcases Nat.lt_or_ge i l.length with hi | hi
  · rw [List.getElem?_append_left hi] at hx
    have hle : (i + 1) * E.size ≤ l.length * E.size := Nat.mul_le_mul_right _ hi
    rw [Nat.add_mul, Nat.one_mul] at hle
    rw [List.drop_append_of_le_length (by rw [h.1]; omega), List.take_append_of_le_length (by rw [List.length_drop, h.1]; omega)]
    exact h.2 i x hx
  · rw [List.getElem?_append_right hi] at hx
    have hle : l.length * E.size ≤ i * E.size := Nat.mul_le_mul_right _ hi
    rw [List.drop_append, List.drop_of_length_le (by rw [h.1]; omega), List.nil_append, h.1, show i * E.size - l.length * E.size = (i - l.length) * E.size by rw [Nat.mul_comm i, Nat.mul_comm l.length, Nat.mul_comm (i - l.length), Nat.mul_sub]]
    exact k.2 _ x hx
theorem Els.cells {E : El P α} {w : World} {G : Nat → Prop} {l : List α} {xs : List Value} (h : Els E w G l xs) : ∀ u ∈ xs, u.oneCell' = true := by
  intro u hu
  obtain ⟨n, hn, he⟩ := List.getElem_of_mem hu
  have hp := E.pos
  have hi : n / E.size < l.length := Nat.div_lt_of_lt_mul (by rw [Nat.mul_comm, ← h.1]; exact hn)
  have hj : n % E.size < E.size := Nat.mod_lt _ hp
  have hnn : n / E.size * E.size + n % E.size = n := by rw [Nat.mul_comm]; exact Nat.div_add_mod n E.size
  refine E.one (h.2 _ _ (List.getElem?_eq_getElem hi)) u ?_
  refine List.mem_of_getElem? (i := n % E.size) ?_
  rw [List.getElem?_take, if_pos hj, List.getElem?_drop, hnn, List.getElem?_eq_getElem hn, he]
theorem Els.moved {E : El P α} {w w' : World} {v v' : Value} {l : List α} {xs : List Value} (h : Els E w (fun k => some k = v.ownBlock) l xs) (hg : w.grownBy w' v.ownBlock) (hm : v'.ownBlock = v.ownBlock ∨ ∃ m, v'.ownBlock = some m ∧ w.heap.size ≤ m) : Els E w' (fun k => some k = v'.ownBlock) l xs := by
  refine ⟨h.1, fun i x hx => ?_⟩
  have h := h.2 i x hx
  rcases hm with e | ⟨m, e, hle⟩
  · rw [e]; exact E.kept h (.of_grown hg)
  · have h' : E.is w (fun k => some k = v.ownBlock ∨ some k = v'.ownBlock) x _ := E.mono h (fun k hk h => by
      rcases h with h | h
      · exact h
      · rw [e] at h; cases h; omega)
    have h'' := E.kept h' (w' := w') ⟨hg.size, fun k hk hn => hg.block k hk (fun e => hn (.inl e))⟩
    exact E.mono h'' (fun k _ h => .inr h)

/-- What 'append' onto a row of the call's own leaves. -/
structure Pushed (E : El P α) (base : Nat) (w0 w' : World) (v : Value) (l : List α) (g cap : Nat) : Prop where
  own : Own E w' base (.slice (some ⟨g, 0, none⟩) l.length cap) l
  below : Below base w0 w'
  kept : Kept (fun k => some k = v.ownBlock) w0 w'
  place : v.ownBlock = some g ∨ w0.heap.size ≤ g
  lt : g < w'.heap.size
theorem Pushed.cell {E : El P α} {base : Nat} {w0 w' : World} {v : Value} {l : List α} {g cap : Nat} (h : Pushed E base w0 w' v l g cap) {p : Addr} {u : Value} (hp : some p.block ≠ v.ownBlock) (hc : w0.cell? p = some u) : w'.cell? p = some u := h.kept.cell hp hc
theorem Pushed.block {E : El P α} {base : Nat} {w0 w' : World} {v : Value} {l : List α} {g cap : Nat} (h : Pushed E base w0 w' v l g cap) {k : Nat} {o : Obj} (hp : some k ≠ v.ownBlock) (hc : w0.heap[k]? = some o) : w'.heap[k]? = some o :=
  (h.kept.2 k (Array.getElem?_eq_some_iff.1 hc).1 hp).trans hc
/-- A block that was there and was not the row's is not the new row's. -/
theorem Pushed.ne {E : El P α} {base : Nat} {w0 w' : World} {v : Value} {l : List α} {g cap : Nat} (h : Pushed E base w0 w' v l g cap) {k : Nat} (hp : some k ≠ v.ownBlock) (hk : k < w0.heap.size) : k ≠ g := by
  intro e; subst e
  rcases h.place with h | h
  · exact hp h.symm
  · omega

theorem Pushed.ne' {E : El P α} {base : Nat} {w0 w' : World} {v : Value} {l : List α} {g cap n : Nat} (h : Pushed E base w0 w' v l g cap) {k : Nat} {o : Obj} (hp : some k ≠ v.ownBlock) (hk : w0.heap[k]? = some o) : some k ≠ (Value.slice (some ⟨g, 0, none⟩) n cap).ownBlock := by
  intro e
  have e' : some k = some g := e
  cases e'
  exact h.ne hp (Array.getElem?_eq_some_iff.1 hk).1 rfl
theorem Pushed.own' {E : El P α} {base : Nat} {w0 w' : World} {v : Value} {l : List α} {g cap n : Nat} (h : Pushed E base w0 w' v l g cap) (hn : l.length = n) : Own E w' base (.slice (some ⟨g, 0, none⟩) n cap) l := hn ▸ h.own
theorem Own.drew {E : El P α} {w : World} {B : Nat} {v : Value} {l : List α} (h : Own E w B v l) : Own E w.drew B v l := h.below (Below.refl _ _).drew
theorem Own.drewN {E : El P α} {w : World} {B : Nat} {v : Value} {l : List α} (h : Own E w B v l) (n : Nat) : Own E (w.drewN n) B v l := h.below (below_drewN (Below.refl _ _) n)

theorem wp_push {w : World} {o : Oper} {a : Act} {K : Act → World → Prop} {Q : Exit → Act → World → Prop} (s x : Operand) (t : TypeId)
    (ho : o.op = .call { callee := .builtin .append, args := #[s, x], argTypes := #[t, t] })
    (E : El P α) (ht : P.underlying t = some (.slice E.ty)) (base : Nat) (v : Value) (l : List α) (hs : a.eval s = v) (hown : Own E w base v l) (ys : List α) (news : List Value) (his : Els E w (fun k => some k = v.ownBlock) ys news)
    (ad : Addr) (c : Nat) (hx : a.eval x = .slice (some ad) ys.length c) (hnews : ∀ j u, news[j]? = some u → w.cell? (ad.add j) = some u) (hm : 0 < ys.length) (h63 : l.length + ys.length ≤ maxLen) (hbytes : (l.length + ys.length) * E.bytes ≤ 140737488355328) (hbase : base ≤ w.heap.size)
    (h : ∀ g cap w', Pushed E base w w' v (l ++ ys) g cap → K (a.put o.dst (.slice (some ⟨g, 0, none⟩) (l.length + ys.length) cap)) w') :
    o.wp P a w K Q := by
  obtain ⟨xs, h1, h2⟩ := hown
  obtain ⟨i, z, hi, hz, hsz, hby, hzs⟩ := E.info
  refine wp_append_lies w s x t ho base E.ty i z E.size E.bytes ht hi hz hsz hby hzs E.pos v l.length xs hs h1 ad ys.length c news hx his.1 hnews his.cells hm h63 hbytes hbase w.heap.size rfl ?_
  intro g cap w' h3 h4 h5 h6
  refine h g cap w' ⟨⟨xs ++ news, by rw [List.length_append]; exact h3, ?_⟩, (Below.refl base w).grown h4 hbase (fun k hk => (h1.lt k hk).1), .of_grown h4, h5.imp id (fun e => by omega), h6⟩
  exact (((Els.append ⟨h1.1, h2⟩ his).moved (v' := .slice (some ⟨g, 0, none⟩) (l ++ ys).length cap) h4 (h5.imp (fun e => by rw [e]; rfl) (fun e => ⟨g, rfl, by omega⟩)))).2

theorem alloc_pushed {E : El P α} {base : Nat} {w0 w' : World} {v : Value} {l : List α} {g cap : Nat} {o : Obj} (hbase : base ≤ w0.heap.size) (h : Pushed E base (w0.alloc o) w' v l g cap) : Pushed E base w0 w' v l g cap :=
  ⟨h.own, ((Below.refl base w0).alloc hbase _).trans h.below, ⟨by have := h.kept.1; simp at this; omega, fun k hk hn => (h.kept.2 k (by simp; omega) hn).trans (Below.heap_alloc _ _ _ hk)⟩, h.place.imp id (fun e => by simp at e; omega), h.lt⟩
/-- 'append(s, x, ..)': the elements in the block that has just been made for them. -/
theorem wp_push_new {w0 : World} {o : Oper} {a : Act} {K : Act → World → Prop} {Q : Exit → Act → World → Prop} (s x : Operand) (t : TypeId)
    (ho : o.op = .call { callee := .builtin .append, args := #[s, x], argTypes := #[t, t] })
    (E : El P α) (ht : P.underlying t = some (.slice E.ty)) (base : Nat) (v : Value) (l : List α) (hs : a.eval s = v) (hown : Own E w0 base v l) (ys : List α) (c : Array Value) (his : Els E w0 (fun k => some k = v.ownBlock) ys c.toList)
    (n cc : Nat) (hn : ys.length = n) (hx : a.eval x = .slice (some ⟨w0.heap.size, 0, none⟩) n cc) (hm : 0 < n) (h63 : l.length + n ≤ maxLen) (hbytes : (l.length + n) * E.bytes ≤ 140737488355328) (hbase : base ≤ w0.heap.size)
    (h : ∀ g cap w', Pushed E base w0 w' v (l ++ ys) g cap → Pushed E base (w0.alloc (.cells c E.ty)) w' v (l ++ ys) g cap → K (a.put o.dst (.slice (some ⟨g, 0, none⟩) (l.length + n) cap)) w') :
    o.wp P a (w0.alloc (.cells c E.ty)) K Q := by
  subst hn
  have hb : Below w0.heap.size w0 (w0.alloc (.cells c E.ty)) := below_alloc _ _
  exact wp_push s x t ho E ht base v l hs (hown.below hb) ys c.toList ⟨his.1, fun i x hx => E.below (his.2 i x hx) hb⟩ ⟨w0.heap.size, 0, none⟩ cc hx (cells_new w0 c E.ty) hm h63 hbytes (by simp; omega) (fun g cap w' hp => h g cap w' (alloc_pushed hbase hp) hp)
theorem wpList_push {w0 : World} {ops : Array Oper} {rest : List Oper} {o : Oper} {a : Act} {Q : Exit → Act → World → Prop} (hgd : o.guard = none) (s x : Operand) (t : TypeId)
    (ho : o.op = .call { callee := .builtin .append, args := #[s, x], argTypes := #[t, t] })
    (E : El P α) (ht : P.underlying t = some (.slice E.ty)) (base : Nat) (v : Value) (l : List α) (hs : a.eval s = v) (hown : Own E w0 base v l) (ys : List α) (c : Array Value) (his : Els E w0 (fun k => some k = v.ownBlock) ys c.toList)
    (n cc : Nat) (hn : ys.length = n) (hx : a.eval x = .slice (some ⟨w0.heap.size, 0, none⟩) n cc) (hm : 0 < n) (h63 : l.length + n ≤ maxLen) (hbytes : (l.length + n) * E.bytes ≤ 140737488355328) (hbase : base ≤ w0.heap.size)
    (h : ∀ g cap w', Pushed E base w0 w' v (l ++ ys) g cap → Pushed E base (w0.alloc (.cells c E.ty)) w' v (l ++ ys) g cap → wpList P ops Q rest (a.put o.dst (.slice (some ⟨g, 0, none⟩) (l.length + n) cap)) w') :
    wpList P ops Q (o :: rest) a (w0.alloc (.cells c E.ty)) :=
  wpList_plain hgd fun _ hK => wp_push_new s x t ho E ht base v l hs hown ys c his n cc hn hx hm h63 hbytes hbase fun g cap w' hp hp' => hK _ _ (h g cap w' hp hp')
/-- The same at a step of a region that draws its order. -/
theorem step_push {w0 : World} {ops : Array Oper} {o : Oper} {a : Act} {K : Act → World → Prop} {Q : Exit → Act → World → Prop} {F : Prop} (hgd : o.guard = none) (s x : Operand) (t : TypeId)
    (ho : o.op = .call { callee := .builtin .append, args := #[s, x], argTypes := #[t, t] })
    (E : El P α) (ht : P.underlying t = some (.slice E.ty)) (base : Nat) (v : Value) (l : List α) (hs : a.eval s = v) (hown : Own E w0 base v l) (ys : List α) (c : Array Value) (his : Els E w0 (fun k => some k = v.ownBlock) ys c.toList)
    (n cc : Nat) (hn : ys.length = n) (hx : a.eval x = .slice (some ⟨w0.heap.size, 0, none⟩) n cc) (hm : 0 < n) (h63 : l.length + n ≤ maxLen) (hbytes : (l.length + n) * E.bytes ≤ 140737488355328) (hbase : base ≤ w0.heap.size)
    (h : ∀ g cap w', Pushed E base w0 w' v (l ++ ys) g cap → Pushed E base (w0.alloc (.cells c E.ty)) w' v (l ++ ys) g cap → K (a.put o.dst (.slice (some ⟨g, 0, none⟩) (l.length + n) cap)) w') :
    if Region.wanted o (yielded ops a.tmps) = true then Oper.wp P o a (w0.alloc (.cells c E.ty)) K Q else F := by
  have hw : Region.wanted o (yielded ops a.tmps) = true := by simp [Region.wanted, hgd]
  rw [if_pos hw]
  exact wp_push_new s x t ho E ht base v l hs hown ys c his n cc hn hx hm h63 hbytes hbase h
theorem Sl.of_block {E : El P α} {w : World} {G : Nat → Prop} {b n m : Nat} {c : Array Value} {e : TypeId} {fr : Nat × Nat} {l : List α} (hb : w.heap[b]? = some (.cells c e fr)) (h : Els E w G l c.toList) (hG : ¬ G b) (hn : l.length = n) (hm : n ≤ m) (hs : n ≤ 9223372036854775807) : Sl E w G (.slice (some ⟨b, 0, none⟩) n m) l := by
  subst hn
  refine ⟨hs, _, _, rfl, hm, fun hp => ⟨b, 0, rfl, hG, fun i x hx => ⟨_, h.2 i x hx, fun j u hu => ?_⟩⟩⟩
  rw [Nat.zero_add, cell_of_row _ b _ c e fr hb]
  rw [List.getElem?_take] at hu
  split at hu
  · rw [List.getElem?_drop] at hu; simpa using hu
  · cases hu
theorem Els.nil (E : El P α) (w : World) (G : Nat → Prop) : Els E w G [] [] := ⟨by simp, by simp⟩
theorem Els.cons {E : El P α} {w : World} {G : Nat → Prop} {y : α} {l : List α} {cs xs : List Value} (h : E.is w G y cs) (k : Els E w G l xs) : Els E w G (y :: l) (cs ++ xs) := (Els.one h).append k
theorem cell_alloc {W : World} {o : Obj} {p : Addr} {v : Value} (h : W.cell? p = some v) : (W.alloc o).cell? p = some v := cell_keep (below_alloc W o) h
/-- What a call hands back that makes a slice. -/
def RetOwn (E : El P α) (w : World) (l : List α) (e : Ending) (w' : World) : Prop := ∃ v, e = .returned v ∧ Own E w' w.heap.size v l ∧ Below w.heap.size w w'
end
theorem info_mk {P : Program} {t : TypeId} {z : Value} {size bytes : Nat} (h : (P.info? t).map (fun i => (i.zero, i.size, i.bytes)) = some (some z, size, bytes)) (hz : z.cells.size = size) :
    ∃ i z, P.info? t = some i ∧ i.zero = some z ∧ i.size = size ∧ i.bytes = bytes ∧ z.cells.size = size := by
  obtain ⟨i, h1, h2, h3, h4⟩ := info_parts h
  exact ⟨i, z, h1, h2, h3, h4, hz⟩
theorem flatMap_length {α : Type} (f : α → List Value) (size : Nat) (hf : ∀ x, (f x).length = size) (l : List α) : (l.flatMap f).length = l.length * size := by
  induction l with
  | nil => simp
  | cons a l ih => rw [List.flatMap_cons, List.length_append, ih, hf, List.length_cons, Nat.add_mul, Nat.one_mul, Nat.add_comm]
theorem flatMap_at {α : Type} (f : α → List Value) (size : Nat) (hf : ∀ x, (f x).length = size) (l : List α) : ∀ (i : Nat) (x : α) (j : Nat) (u : Value), l[i]? = some x → (f x)[j]? = some u → (l.flatMap f)[i * size + j]? = some u := by
  induction l with
  | nil => intro i x j u h; simp at h
  | cons a l ih =>
    intro i x j u h hj
    rw [List.flatMap_cons]
    cases i with
    | zero =>
      simp at h; subst h
      have := (List.getElem?_eq_some_iff.1 hj).1
      rw [Nat.zero_mul, Nat.zero_add, List.getElem?_append_left this]; exact hj
    | succ i =>
      rw [List.getElem?_append_right (by rw [hf, Nat.add_mul, Nat.one_mul]; omega), hf]
      have := ih i x j u (by simpa using h) hj
      rw [show (i + 1) * size + j - size = i * size + j by rw [Nat.add_mul, Nat.one_mul]; omega]; exact this
section
variable {P : Program} {α : Type} {ty : TypeId} {size bytes : Nat} {pos : 0 < size} {info : ∃ i z, P.info? ty = some i ∧ i.zero = some z ∧ i.size = size ∧ i.bytes = bytes ∧ z.cells.size = size}
  {f : α → List Value} {hf : ∀ x, (f x).length = size} {h1 : ∀ x, ∀ u ∈ f x, u.oneCell' = true}
theorem Sl.reads {w : World} {G : Nat → Prop} {v : Value} {l : List α} (h : Sl (El.flat (P := P) ty size bytes pos info f hf h1) w G v l) : Reads w size v l.length (l.flatMap f) := by
  obtain ⟨g1, a, c, g2, g3, g4⟩ := h
  refine ⟨flatMap_length f size hf l, g1, a, c, g2, g3, fun hn => ?_⟩
  obtain ⟨b, o, g5, _, g6⟩ := g4 hn
  refine ⟨b, o, g5, fun j u hu => ?_⟩
  refine flat_cells f size hf l (fun j u => w.cell? ⟨b, o + j, none⟩ = some u) ?_ j u hu
  intro i x hx j u hu
  obtain ⟨cs, rfl, g8⟩ := g6 i x hx
  rw [← Nat.add_assoc]; exact g8 j u hu
theorem Sl.of_reads {w : World} {G : Nat → Prop} {v : Value} {l : List α} (h : Reads w size v l.length (l.flatMap f)) (hG : ∀ k, v.ownBlock = some k → ¬ G k) : Sl (El.flat (P := P) ty size bytes pos info f hf h1) w G v l := by
  obtain ⟨_, g1, a, c, rfl, g3, g4⟩ := h
  refine ⟨g1, a, c, rfl, g3, fun hn => ?_⟩
  obtain ⟨b, o, rfl, g6⟩ := g4 hn
  refine ⟨b, o, rfl, hG b rfl, fun i x hx => ⟨_, rfl, fun j u hu => ?_⟩⟩
  rw [Nat.add_assoc]
  exact g6 _ u (flatMap_at f size hf l i x j u hx hu)
theorem Own.flat_cells {w : World} {B : Nat} {v : Value} {l : List α} (h : Own (El.flat (P := P) ty size bytes pos info f hf h1) w B v l) : w.ownsRow B ty size v l.length (l.flatMap f) := by
  obtain ⟨xs, h2, h3⟩ := h
  have h4 : xs = l.flatMap f := by
    refine List.ext_getElem? fun n => ?_
    have hx : xs.length = l.length * size := h2.1
    have hl := flatMap_length f size hf l
    rcases Nat.lt_or_ge n (l.length * size) with hn | hn
    · have hi : n / size < l.length := Nat.div_lt_of_lt_mul (by rw [Nat.mul_comm]; exact hn)
      have hj : n % size < size := Nat.mod_lt _ pos
      have hnn : n / size * size + n % size = n := by rw [Nat.mul_comm]; exact Nat.div_add_mod n size
      have hcs := h3 (n / size) _ (List.getElem?_eq_getElem hi)
      have hfl : n % size < (f l[n / size]).length := by rw [hf]; exact hj
      have e1 := flatMap_at f size hf l (n / size) _ (n % size) _ (List.getElem?_eq_getElem hi) (List.getElem?_eq_getElem hfl)
      rw [hnn] at e1
      rw [e1]
      have e2 : ((xs.drop (n / size * size)).take size)[n % size]? = some ((f l[n / size])[n % size]) := by
        have : (xs.drop (n / size * size)).take size = f l[n / size] := hcs
        rw [this]; exact List.getElem?_eq_getElem hfl
      rw [List.getElem?_take, if_pos hj, List.getElem?_drop, hnn] at e2
      exact e2
    · rw [List.getElem?_eq_none (by omega), List.getElem?_eq_none (by omega)]
  rw [← h4]; exact h2
theorem Own.of_flat {w : World} {B : Nat} {v : Value} {l : List α} (h : w.ownsRow B ty size v l.length (l.flatMap f)) : Own (El.flat (P := P) ty size bytes pos info f hf h1) w B v l := by
  refine ⟨_, h, fun i x hx => ?_⟩
  have hi := (List.getElem?_eq_some_iff.1 hx).1
  show _ = f x
  refine List.ext_getElem? fun j => ?_
  show (List.take size (List.drop (i * size) (l.flatMap f)))[j]? = _
  rw [List.getElem?_take]
  split
  · rename_i hj
    rw [List.getElem?_drop]
    have hfl : j < (f x).length := by rw [hf]; exact hj
    rw [flatMap_at f size hf l i x j _ hx (List.getElem?_eq_getElem hfl), List.getElem?_eq_getElem hfl]
  · rename_i hj
    rw [List.getElem?_eq_none (by rw [hf]; omega)]
end
end Go.Proofs.YthjgnpicnpfmjaaDoor
