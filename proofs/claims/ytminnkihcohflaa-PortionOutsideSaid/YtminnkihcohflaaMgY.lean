/- A part of the proofs of the laws of chapter 19: ShSr, Srt, Bag, Tsl. No condition beside sizes. -/
import Derived.Shelf.SlLaysF0
import Derived.Test.YtminnkihcohflaaProg
import Derived.Test.YtminnkihcohflaaMgD
import Derived.Test.YtminnkihcohflaaMgX
import Derived.Shelf.SlSortCmp.WholeK
import Derived.Test.YtminnkihcohflaaMgA
import Derived.Shelf.SlSortCmp.NoneTotal
import Derived.Test.YtminnkihcohflaaMgB
namespace Go.Proofs.Ytminnkihcohflaa
open Go.Shelf
def sh_sortRows_ren : Go.Shelf.Ren := ⟨fun | 6 => 106 | 15 => 110 | 14 => 132 | 28 => 144 | 29 => 145 | 20 => 158 | 21 => 159 | 22 => 160 | 23 => 161 | 24 => 162 | 25 => 163 | 26 => 164 | 27 => 165 | 46 => 184 | 47 => 168 | 48 => 169 | 49 => 185 | 50 => 186 | 57 => 191 | n => n, fun | 22 => 85 | 24 => 97 | 25 => 151 | 3 => 3 | 39 => 125 | 0 => 0 | 53 => 178 | 55 => 71 | 4 => 4 | 46 => 172 | 45 => 171 | 50 => 93 | 5 => 5 | 9 => 9 | 66 => 193 | 70 => 197 | 76 => 208 | 77 => 209 | n => n, fun | n => n⟩
theorem sh_sortRows : Go.Proofs.SlLaysF0.n6 Try.prog sh_sortRows_ren := {
  mixed := by kernel_rfl
  f6 := ⟨Try.f106.name, by decide, Try.func106.trans (congrArg some (by kernel_rfl))⟩
  f14 := ⟨Try.f132.name, by decide, Try.func132.trans (congrArg some (by kernel_rfl))⟩
  f15 := Try.func110.trans (congrArg some (by kernel_rfl))
  f20 := ⟨Try.f158.name, by decide, Try.func158.trans (congrArg some (by kernel_rfl))⟩
  f21 := ⟨Try.f159.name, by decide, Try.func159.trans (congrArg some (by kernel_rfl))⟩
  f22 := ⟨Try.f160.name, by decide, Try.func160.trans (congrArg some (by kernel_rfl))⟩
  f23 := ⟨Try.f161.name, by decide, Try.func161.trans (congrArg some (by kernel_rfl))⟩
  f24 := ⟨Try.f162.name, by decide, Try.func162.trans (congrArg some (by kernel_rfl))⟩
  f25 := ⟨Try.f163.name, by decide, Try.func163.trans (congrArg some (by kernel_rfl))⟩
  f26 := ⟨Try.f164.name, by decide, Try.func164.trans (congrArg some (by kernel_rfl))⟩
  f27 := ⟨Try.f165.name, by decide, Try.func165.trans (congrArg some (by kernel_rfl))⟩
  f28 := Try.func144.trans (congrArg some (by kernel_rfl))
  f29 := Try.func145.trans (congrArg some (by kernel_rfl))
  f46 := ⟨Try.f184.name, by decide, Try.func184.trans (congrArg some (by kernel_rfl))⟩
  f47 := Try.func168.trans (congrArg some (by kernel_rfl))
  f48 := Try.func169.trans (congrArg some (by kernel_rfl))
  f49 := ⟨Try.f185.name, by decide, Try.func185.trans (congrArg some (by kernel_rfl))⟩
  f50 := ⟨Try.f186.name, by decide, Try.func186.trans (congrArg some (by kernel_rfl))⟩
  f57 := ⟨Try.f191.name, by decide, Try.func191.trans (congrArg some (by kernel_rfl))⟩
  t0 := Try.underlying0
  a0 := Try.isAgg0
  z0 := Try.sizeOf0
  v0 := Try.zeroValue0
  t3 := Try.underlying3
  a3 := Try.isAgg3
  z3 := Try.sizeOf3
  v3 := Try.zeroValue3
  t4 := Try.underlying4
  a4 := Try.isAgg4
  z4 := Try.sizeOf4
  v4 := Try.zeroValue4
  t5 := Try.underlying5
  a5 := Try.isAgg5
  z5 := Try.sizeOf5
  v5 := Try.zeroValue5
  t9 := Try.underlying9
  a9 := Try.isAgg9
  z9 := Try.sizeOf9
  v9 := Try.zeroValue9
  t22 := Try.underlying85
  a22 := Try.isAgg85
  z22 := Try.sizeOf85
  v22 := Try.zeroValue85
  t25 := Try.underlying151
  a25 := Try.isAgg151
  z25 := Try.sizeOf151
  v25 := Try.zeroValue151
  t39 := Try.underlying125
  a39 := Try.isAgg125
  z39 := Try.sizeOf125
  v39 := Try.zeroValue125
  t45 := Try.underlying171
  a45 := Try.isAgg171
  z45 := Try.sizeOf171
  v45 := Try.zeroValue171
  t46 := Try.underlying172
  a46 := Try.isAgg172
  z46 := Try.sizeOf172
  v46 := Try.zeroValue172
  t50 := Try.underlying93
  a50 := Try.isAgg93
  z50 := Try.sizeOf93
  v50 := Try.zeroValue93
  t53 := Try.underlying178
  a53 := Try.isAgg178
  z53 := Try.sizeOf178
  v53 := Try.zeroValue178
  t55 := Try.underlying71
  a55 := Try.isAgg71
  z55 := Try.sizeOf71
  v55 := Try.zeroValue71
  t66 := Try.underlying193
  a66 := Try.isAgg193
  z66 := Try.sizeOf193
  v66 := Try.zeroValue193
  t70 := Try.underlying197
  a70 := Try.isAgg197
  z70 := Try.sizeOf197
  v70 := Try.zeroValue197
  t76 := Try.underlying208
  a76 := Try.isAgg208
  z76 := Try.sizeOf208
  v76 := Try.zeroValue208
  t77 := Try.underlying209
  a77 := Try.isAgg209
  z77 := Try.sizeOf209
  v77 := Try.zeroValue209 }
end Go.Proofs.Ytminnkihcohflaa

namespace Go.Proofs.Ytminnkihcohflaa
open Go.RowKit Go.Lib Go.Sort

section
variable {P : Program} {α : Type}
/-- An element's cells, and what they are. -/
structure Cel (E : El P α) (w : World) (g : Nat) where
  cells : List Value
  val : α
  is : E.is w (fun k => some k = some g) val cells
variable {E : El P α} {w : World} {g : Nat}
theorem Cel.len (x : Cel E w g) : x.cells.length = E.size := E.len x.is
theorem Cel.one (x : Cel E w g) : ∀ v ∈ x.cells, v.oneCell' = true := E.one x.is
theorem cel_chop : ∀ (l : List α) (xs : List Value), xs.length = l.length * E.size → (∀ i x, l[i]? = some x → E.is w (fun k => some k = some g) x ((xs.drop (i * E.size)).take E.size)) → ∃ d : List (Cel E w g), d.map Cel.val = l ∧ d.flatMap Cel.cells = xs
  | [], xs, h, _ => ⟨[], rfl, by simp at h; simp [h]⟩
  | a :: l, xs, h, hi => by
    obtain ⟨d, h1, h2⟩ := cel_chop l (xs.drop E.size) (by rw [List.length_drop, h, List.length_cons, Nat.add_mul]; omega) (fun i x hx => by
      have := hi (i + 1) x (by simpa using hx)
      rw [Nat.add_mul, Nat.one_mul, Nat.add_comm, ← List.drop_drop] at this
      exact this)
    have h0 := hi 0 a rfl
    rw [Nat.zero_mul, List.drop_zero] at h0
    exact ⟨(⟨xs.take E.size, a, h0⟩ : Cel E w g) :: d, by rw [List.map_cons, h1], by rw [List.flatMap_cons, h2]; exact List.take_append_drop _ _⟩
theorem flat_chunk {β : Type} (f : β → List Value) (s : Nat) (hf : ∀ x, (f x).length = s) : ∀ (l : List β) (i : Nat) (x : β), l[i]? = some x → ((l.flatMap f).drop (i * s)).take s = f x
  | [], i, x, h => by simp at h
  | a :: l, 0, x, h => by
    simp at h
    subst h
    rw [List.flatMap_cons, Nat.zero_mul, List.drop_zero, List.take_append_of_le_length (by rw [hf]; exact Nat.le_refl _), List.take_of_length_le (by rw [hf]; exact Nat.le_refl _)]
  | a :: l, i + 1, x, h => by
    have e : (f a ++ l.flatMap f).drop s = l.flatMap f := by rw [← hf a, List.drop_left]
    rw [List.flatMap_cons, Nat.add_mul, Nat.one_mul, Nat.add_comm, ← List.drop_drop, e]
    exact flat_chunk f s hf l i x (by simpa using h)
theorem flatK_list [Inhabited (Cel E w g)] (d : Array (Cel E w g)) : flatK Cel.cells E.size d = (d.toList.flatMap Cel.cells).toArray := by
  have hl := flatMap_length (Cel.cells (E := E) (w := w) (g := g)) E.size Cel.len d.toList
  have hs : (d.toList.flatMap Cel.cells).toArray.size = d.size * E.size := by simpa using hl
  refine ext_get! (by rw [size_flatK, hs]) fun t ht => ?_
  rw [size_flatK] at ht
  rw [get_flatK _ _ _ _ ht]
  have hp := E.pos
  have hi : t / E.size < d.size := Nat.div_lt_of_lt_mul (by rw [Nat.mul_comm]; exact ht)
  have hj : t % E.size < E.size := Nat.mod_lt _ hp
  have hn : t / E.size * E.size + t % E.size = t := by rw [Nat.mul_comm]; exact Nat.div_add_mod t E.size
  have hc : t % E.size < (Cel.cells d[t / E.size]).length := by rw [Cel.len]; exact hj
  have h := flatMap_at Cel.cells E.size Cel.len d.toList (t / E.size) d[t / E.size] (t % E.size) _ (by simp [hi]) (List.getElem?_eq_getElem hc)
  rw [hn] at h
  have e1 : (Cel.cells d[t / E.size]!)[t % E.size]! = (Cel.cells d[t / E.size])[t % E.size] := by rw [getElem!_pos d (t / E.size) hi]; exact getElem!_pos (Cel.cells d[t / E.size]) (t % E.size) hc
  rw [e1, getElem!_pos (d.toList.flatMap Cel.cells).toArray t (by rw [hs]; exact ht)]
  obtain ⟨h1, h2⟩ := List.getElem?_eq_some_iff.1 h
  exact h2.symm
theorem cel_of_own {B n c : Nat} {l : List α} (h : Own E w B (.slice (some ⟨g, 0, none⟩) n c) l) (hn : l.length = n) :
    ∃ d : List (Cel E w g), d.map Cel.val = l ∧ w.ownsRow B E.ty E.size (.slice (some ⟨g, 0, none⟩) n c) n (d.flatMap Cel.cells) := by
  subst hn
  obtain ⟨xs, h1, h2⟩ := h
  obtain ⟨d, h3, h4⟩ := cel_chop (E := E) (w := w) (g := g) l xs h1.1 h2
  exact ⟨d, h3, by rw [h4]; exact h1⟩
theorem cel_holds [Inhabited (Cel E w g)] {B n c : Nat} {d : List (Cel E w g)} (h : w.ownsRow B E.ty E.size (.slice (some ⟨g, 0, none⟩) n c) n (d.flatMap Cel.cells)) : HoldsK Cel.cells E.size w g 0 d.toArray := by
  unfold HoldsK
  rw [flatK_list]
  intro j hj
  have hj' : j < (d.flatMap Cel.cells).length := by simpa using hj
  refine ⟨?_, h.frozenAt (0 + j)⟩
  rw [getElem!_pos (List.flatMap Cel.cells d.toArray.toList).toArray j hj]
  obtain ⟨_, _, a, c', e, _, h6⟩ := own_reads h
  have hpos : 0 < n := by
    rcases Nat.eq_zero_or_pos n with h0 | h0
    · subst h0
      have := h.1
      rw [Nat.zero_mul] at this
      omega
    · exact h0
  obtain ⟨b, o, rfl, h7⟩ := h6 hpos
  cases e
  have := h7 j _ (List.getElem?_eq_getElem hj')
  simpa using this
theorem setL_all (xs vs : List Value) (h : vs.length = xs.length) : setL xs 0 vs = vs := by
  refine List.ext_getElem? fun m => ?_
  rw [setL_get]
  by_cases hm : m < vs.length
  · rw [if_pos (by omega), Nat.sub_zero]
  · rw [if_neg (by omega), List.getElem?_eq_none (by omega), List.getElem?_eq_none (by omega)]
theorem cel_laid [Inhabited (Cel E w g)] {B n c : Nat} {d : List (Cel E w g)} (h : w.ownsRow B E.ty E.size (.slice (some ⟨g, 0, none⟩) n c) n (d.flatMap Cel.cells)) (hB : B ≤ g) (hn : d.length = n) (d' : Array (Cel E w g)) (hs : d'.size = n) (m : Nat) (os : Array Obj) :
    Own E (sortWorldK Cel.cells E.size w g 0 m d' os) B (.slice (some ⟨g, 0, none⟩) n c) (d'.toList.map Cel.val) ∧ Kept (fun k => some k = some g) w (sortWorldK Cel.cells E.size w g 0 m d' os) ∧ RowKit.Below B w (sortWorldK Cel.cells E.size w g 0 m d' os) := by
  have hl := flatMap_length (Cel.cells (E := E) (w := w) (g := g)) E.size Cel.len d'.toList
  have hl0 := flatMap_length (Cel.cells (E := E) (w := w) (g := g)) E.size Cel.len d
  have hlt : d'.toList.length = n := by simpa using hs
  have hA : HoldsK Cel.cells E.size (Sort.ahead w m) g 0 d.toArray := holdsK_ahead _ _ w m g 0 _ (cel_holds h)
  have hW0 : putRowK Cel.cells E.size (Sort.ahead w m) g 0 d' = (Sort.ahead w m).setCells g 0 (d'.toList.flatMap Cel.cells) := by
    have e1 := putRowK_self _ _ (Sort.ahead w m) g 0 d.toArray hA
    unfold putRowK at e1
    have e2 := setCells_putRow (Sort.ahead w m) g 0 (d'.toList.flatMap Cel.cells) 0 (flatK Cel.cells E.size d.toArray) (by rw [size_flatK, hl, hlt]; simp [hn])
    rw [e1] at e2
    rw [show (0 : Nat) + 0 = 0 from rfl] at e2
    rw [e2]
    unfold putRowK
    congr 1
    refine ext_get! (by rw [size_flatK, size_setMany, size_flatK]; simp [hn, hs]) fun t ht => ?_
    rw [size_flatK, hs] at ht
    have ht' : t < (d'.toList.flatMap Cel.cells).length := by rw [hl, hlt]; exact ht
    rw [get_setMany _ _ _ _ (by rw [size_flatK]; simp only [List.size_toArray, hn]; exact ht), if_pos ⟨Nat.zero_le _, by omega⟩, Nat.sub_zero, flatK_list, getElem!_pos (d'.toList.flatMap Cel.cells).toArray t (by simpa using ht'), getElem!_pos (d'.toList.flatMap Cel.cells) t ht']
    rfl
  have hD : RowKit.Below w.heap.size w (Sort.ahead w m) := ⟨rfl, rfl, rfl, Nat.le_refl _, fun _ _ => rfl⟩
  obtain ⟨h3, h4⟩ := owns_setCells (d'.toList.flatMap Cel.cells) (Sort.ahead w m) (d.flatMap Cel.cells) 0 (own_below h hD)
  rw [setL_all _ _ (by rw [hl, hl0, hlt, hn])] at h3
  have hK0 : Kept (fun k => some k = some g) w ((Sort.ahead w m).setCells g 0 (d'.toList.flatMap Cel.cells)) := ⟨h4.size, fun k hk hne => h4.block k hk hne⟩
  have hG : RowKit.Below ((Sort.ahead w m).setCells g 0 (d'.toList.flatMap Cel.cells)).heap.size ((Sort.ahead w m).setCells g 0 (d'.toList.flatMap Cel.cells)) (sortWorldK Cel.cells E.size w g 0 m d' os) := by
    unfold sortWorldK
    rw [hW0]
    exact Grew.below ⟨0, os, rfl⟩
  have hO : Own E ((Sort.ahead w m).setCells g 0 (d'.toList.flatMap Cel.cells)) B (.slice (some ⟨g, 0, none⟩) n c) (d'.toList.map Cel.val) := by
    refine ⟨d'.toList.flatMap Cel.cells, by rw [List.length_map, hlt]; exact h3, fun i x hx => ?_⟩
    rw [List.getElem?_map] at hx
    cases hy : d'.toList[i]? with
    | none => rw [hy] at hx; cases hx
    | some y =>
      rw [hy] at hx
      cases hx
      rw [flat_chunk Cel.cells E.size Cel.len _ _ _ hy]
      exact E.kept y.is hK0
  have hlt2 := h.lt g rfl
  refine ⟨hO.below hG, ⟨Nat.le_trans hK0.1 hG.size, fun k hk hne => (hG.block k (Nat.lt_of_lt_of_le hk hK0.1)).trans (hK0.2 k hk hne)⟩, ?_⟩
  refine (RowKit.Below.refl B w).trans ?_
  refine ⟨hG.os.trans h4.os, hG.tape.trans h4.tape, hG.output.trans h4.output, Nat.le_trans hK0.1 hG.size, fun k hk => ?_⟩
  have hkw : k < w.heap.size := by omega
  exact (hG.block k (Nat.lt_of_lt_of_le hkw hK0.1)).trans (hK0.2 k hkw (fun e => by cases e; omega))
theorem Own.shape_lt {B : Nat} {v : Value} {l : List α} (h : Own E w B v l) (hp : 0 < l.length) : ∃ g c, v = .slice (some ⟨g, 0, none⟩) l.length c := by
  obtain ⟨xs, h1, _⟩ := h
  rcases h1.2 with ⟨_, h⟩ | ⟨g, cap, cur, e, _⟩
  · omega
  · exact ⟨g, cap, e⟩
theorem own_sorted {B n c F : Nat} {args : Array Value} {l : List α} (cf : α → α → Int) (h : Own E w B (.slice (some ⟨g, 0, none⟩) n c) l) (hn : l.length = n) (hpos : 0 < n)
    (call : ∀ [Inhabited (Cel E w g)] (d : Array (Cel E w g)), d.size = n → HoldsK Cel.cells E.size w g 0 d → (∀ m os (dk : Array (Cel E w g)), dk.size = n → Kept (fun k => some k = some g) w (sortWorldK Cel.cells E.size w g 0 m dk os)) →
      Calls P F args w fun e w' => e = .returned (.tuple #[]) ∧ ∃ d' nn os, PermIn 0 d.size d d' ∧ SortedIn (ltOf fun x y : Cel E w g => cf x.val y.val) 0 d.size d' ∧ w' = sortWorldK Cel.cells E.size w g 0 nn d' os) :
    Calls P F args w fun e w' => e = .returned (.tuple #[]) ∧ ∃ l' : List α, l'.Perm l ∧ l'.Pairwise (fun x y => ¬ cf y x < 0) ∧ Own E w' B (.slice (some ⟨g, 0, none⟩) n c) l' ∧ Kept (fun k => some k = some g) w w' ∧ RowKit.Below B w w' := by
  obtain ⟨d, hd, hown⟩ := cel_of_own h hn
  have hdl : d.length = n := by rw [← hn, ← hd, List.length_map]
  have hB : B ≤ g := (h.lt g rfl).1
  obtain ⟨x0, d0, rfl⟩ : ∃ x0 d0, d = x0 :: d0 := by
    cases d with
    | nil => simp at hdl; omega
    | cons x0 d0 => exact ⟨x0, d0, rfl⟩
  haveI : Inhabited (Cel E w g) := ⟨x0⟩
  refine (call (x0 :: d0).toArray (by simpa using hdl) (cel_holds hown) (fun m os dk hdk => (cel_laid hown hB hdl dk hdk m os).2.1)).mono ?_
  rintro e w' ⟨rfl, d', nn, os, hp, hs, rfl⟩
  have hsz : d'.size = n := by rw [hp.1]; simpa using hdl
  obtain ⟨h1, h2, h3⟩ := cel_laid hown hB hdl d' hsz nn os
  refine ⟨rfl, d'.toList.map Cel.val, ?_, ?_, h1, h2, h3⟩
  · rw [← hd]
    refine List.Perm.map _ ?_
    have := hp.2.2
    rw [show ((x0 :: d0).toArray.extract 0 (x0 :: d0).toArray.size) = (x0 :: d0).toArray by simp, show d'.extract 0 (x0 :: d0).toArray.size = d' by rw [← hp.1]; simp] at this
    simpa using this
  · rw [List.pairwise_map, List.pairwise_iff_getElem]
    intro i j hi hj hij
    have hi' : i < d'.size := by simpa using hi
    have hj' : j < d'.size := by simpa using hj
    have := hs i j (Nat.zero_le _) hij (by rw [← hp.1]; exact hj')
    rw [getElem!_pos d' j hj', getElem!_pos d' i hi'] at this
    unfold ltOf at this
    simpa using this
end
end Go.Proofs.Ytminnkihcohflaa

namespace Go.Proofs.Ytminnkihcohflaa
open Go.RowKit Go.Lib Go.Shelf Go.Sort

theorem swo_row {β : Type} (f : β → GRow) : SWO (ltOf fun x y : β => cmpRow (f x) (f y)) where
  irrefl x := by
    show decide (cmpRow (f x) (f x) < 0) = false
    rw [cmpRow_zero.2 rfl]
    rfl
  trans x y z h1 h2 := by
    have h := sgn_row (f x) (f y) (f z)
    have h1' : decide (cmpRow (f x) (f y) < 0) = true := h1
    have h2' : decide (cmpRow (f y) (f z) < 0) = true := h2
    show decide (cmpRow (f x) (f z) < 0) = true
    unfold Sgn3 at h
    rw [decide_eq_true_eq] at h1' h2' ⊢
    omega
  ntrans x y z h1 h2 := by
    have h := sgn_row (f z) (f y) (f x)
    rw [cmpRow_swap (f y) (f z), cmpRow_swap (f x) (f y), cmpRow_swap (f x) (f z)] at h
    have h1' : decide (cmpRow (f x) (f y) < 0) = false := h1
    have h2' : decide (cmpRow (f y) (f z) < 0) = false := h2
    show decide (cmpRow (f x) (f z) < 0) = false
    unfold Sgn3 at h
    rw [decide_eq_false_iff_not] at h1' h2' ⊢
    omega
theorem sortRows_any (v : Value) (l : List GRow) (B : Nat) (w : World) (hO : Own rowE w B v l) (hl : l.length ≤ 1000000) :
    Calls Try.prog 106 #[v, .func (.func 107) #[] #[]] w fun e w' => e = .returned (.tuple #[]) ∧ Own rowE w' B v (sortR l) ∧ RowKit.Below B w w' := by
  rcases Nat.eq_zero_or_pos l.length with h0 | hpos
  · have hl0 : l = [] := List.eq_nil_of_length_eq_zero h0
    subst hl0
    obtain ⟨a, c, rfl⟩ := hO.shape
    refine (AnyF.slices_SortFunc_none sh_sortRows a c _ w).mono ?_
    rintro _ w' ⟨rfl, rfl⟩
    exact ⟨rfl, (by simpa [sortR] using hO), .refl _ _⟩
  · obtain ⟨g, c, rfl⟩ := Own.shape_lt hO hpos
    have hgl := (hO.lt g rfl).2
    refine (own_sorted cmpRow hO rfl hpos fun d hd hH hK => ?_).mono ?_
    · have eg : ∀ args w, (callFunc 107 args).run Try.prog w = .ok (.enter 107 args) w := enters_of Try.func107 (by kernel_rfl) rfl
      have hcmp : CmpLays Try.prog 107 #[] (Cel.cells (E := rowE) (w := w) (g := g)) 2 (fun x y => cmpRow x.val y.val) g 0 d.size w := fun m os dk hdk x y => by
        obtain ⟨v1, u1, e1, p1, q1⟩ := x.is
        obtain ⟨v2, u2, e2, p2, q2⟩ := y.is
        have hk := hK m os dk (hdk.trans hd)
        rw [e1, e2]
        exact bagCmp_g x.val y.val v1 u1 v2 u2 _ (p1.kept hk).free (q1.kept hk).free (p2.kept hk).free (q2.kept hk).free
      have := AnyQ.slices_SortFunc sh_sortRows 2 (fun w => Try.isAgg97 w) (fun w => Try.sizeOf97 w) (Cel.cells (E := rowE) (w := w) (g := g)) Cel.len Cel.one (fun x y => cmpRow x.val y.val) (swo_row Cel.val) 107 #[] g 0 c d w eg hcmp hH hgl (by omega)
      have e : Value.slice (some ⟨g, 0, none⟩) d.size c = .slice (some ⟨g, 0, none⟩) l.length c := by rw [hd]
      rw [e] at this
      exact this
    · rintro _ w' ⟨rfl, l', hp, hs, hO', _, hb⟩
      rw [sortR_unique hp hs] at hO'
      exact ⟨rfl, hO', hb⟩
set_option maxHeartbeats 4000000 in
set_option maxRecDepth 100000 in
theorem bagSort_any (v : Value) (l : List GRow) (w : World) (hv : Sl rowE w free v l) (hl : l.length ≤ 100000) (hs : ∀ x ∈ l, x.vals.length ≤ 1000 ∧ x.lin.length ≤ 1000) :
    Calls Try.prog 75 #[v] w (RetOwn rowE w (sortR l)) := by
  obtain ⟨a, c, rfl⟩ := hv.shape
  have h63 := hv.1
  have HV := Lib.hid hv
  have HS := Lib.hid hs
  obtain ⟨n, hn⟩ : ∃ n, n = l.length := ⟨_, rfl⟩
  have HN := Lib.hid hn
  rw [← hn] at HV h63 hl ⊢
  clear hv hn hs
  go_enter Try.func75, Try.ntmps75
  go_wp2_with fail
  go_loopw [8, 3] (fun i o wr => ∃ k : Nat, k ≤ n ∧ i = .int .i64 k ∧ Own rowE wr w.heap.size o (l.take k) ∧ Hid (RowKit.Below w.heap.size w wr)) (fun i _ _ => n - (RowKit.intOf i).toNat)
  case atStart => exact ⟨0, Nat.zero_le _, rfl, Own.nil _ _ _, Lib.hid (.refl _ _)⟩
  case round =>
    obtain ⟨k, hk, rfl, hO, HB⟩ := hrel
    obtain ⟨wo, rfl⟩ : ∃ wo : World, wo = wr := ⟨_, rfl⟩
    by_cases hlt : k < n
    · obtain ⟨x, hx⟩ := lget_some l k (by rw [← HN.out]; exact hlt)
      obtain ⟨b, o, a1, n1, e1, m1, rfl, hvv, hll, p0, p1⟩ := rows_at HV.out hx
      replace p0 := cell_keep HB.out p0
      replace p1 := cell_keep HB.out p1
      obtain ⟨hz1, hz2⟩ := HS.out x (List.mem_of_getElem? hx)
      have HT : Hid (l.take (k + 1) = l.take k ++ [x]) := Lib.hid (take_get hx)
      have hlk : (l.take k).length = k := by rw [List.length_take, ← HN.out]; omega
      obtain ⟨lk, hlke⟩ : ∃ lk, lk = l.take k := ⟨_, rfl⟩
      rw [← hlke] at hO HT hlk
      obtain ⟨ao, co, rfl⟩ := hO.shape
      rw [hlk] at hO ⊢
      obtain ⟨xv, xl⟩ := x
      dsimp only at p0 p1 hvv hll hz1 hz2
      have HVV := Lib.hid hvv
      have HLL := Lib.hid hll
      have HO := Lib.hid hO
      have HLK := Lib.hid hlk
      have HB1 : Hid (RowKit.Below w.heap.size w (wo.alloc (.cells #[.slice a1 xv.length n1, .slice e1 xl.length m1] 97))) := Lib.hid (below_alloc_keep HB.out)
      have HO1 := Lib.hid (hO.below (below_alloc wo (.cells #[.slice a1 xv.length n1, .slice e1 xl.length m1] 97)))
      clear hx hvv hll hO hlk hlke
      go_wp2_with fail
      refine (bagClone_any _ _ xv xl _ (HVV.out.below HB1.out).vals (HLL.out.below HB1.out).ints hz1 hz2).mono ?_
      rintro _ w3 ⟨v', u', rfl, hC1, hC2⟩
      obtain ⟨a', c', rfl⟩ := reads_shape hC1.reads
      obtain ⟨b', d', rfl⟩ := reads_shape hC2.reads
      have HB3 : Hid (RowKit.Below w.heap.size w w3) := Lib.hid (below_keep HB1.out hC1.below)
      have HO3 := Lib.hid (HO1.out.below hC1.below)
      have hnv : ∀ j, (Value.slice a' xv.length c').ownBlock = some j → ¬ some j = (Value.slice ao k co).ownBlock := fun j h1 h2 => by
        have h3 := hC1.newer j h1
        have h4 := (HO1.out.lt j h2.symm).2
        omega
      have hnu : ∀ j, (Value.slice b' xl.length d').ownBlock = some j → ¬ some j = (Value.slice ao k co).ownBlock := fun j h1 h2 => by
        have h3 := hC2.newer j h1
        have h4 := (HO1.out.lt j h2.symm).2
        omega
      have HIS : Hid (Els rowE w3 (fun j => some j = (Value.slice ao k co).ownBlock) [⟨xv, xl⟩] [.slice a' xv.length c', .slice b' xl.length d']) := Lib.hid (Els.one ⟨_, _, rfl, Sl.of_vals hC1.reads hnv, Sl.of_ints hC2.reads hnu⟩)
      clear hC1 hC2 hnv hnu HB1 HO1
      go_wp2_with (at_builtin; refine wpList_push rfl (.tmp 12) (.tmp 15) 85 rfl rowE Try.underlying85 w.heap.size (.slice ao k co) lk rfl HO3.out [⟨xv, xl⟩] #[.slice a' xv.length c', .slice b' xl.length d'] HIS.out 1 1 rfl rfl (by decide) (by have := HLK.out; unfold maxLen; omega) (by have := HLK.out; show _ * 48 ≤ _; omega) HB3.out.size ?_; intro g cap w5 hP hPa)
      go_roundw
      case rel => exact ⟨k + 1, by omega, by go_num, by rw [HT.out]; exact hP.own' (by simp [HLK.out]), Lib.hid (HB3.out.trans hP.below)⟩
      case measure => simp [RowKit.intOf]; omega
    · have hkk : l.take k = l := List.take_of_length_le (by rw [← HN.out]; omega)
      rw [hkk] at hO
      obtain ⟨ao, co, rfl⟩ := hO.shape
      have HO := Lib.hid hO
      clear hO hkk
      have HSR := Lib.hid (sortRows_any _ l w.heap.size wo HO.out (by have := HN.out; omega))
      go_wp2_with fail
      refine HSR.out.mono ?_
      rintro _ w2 ⟨rfl, hO2, hb2⟩
      have HO2 := Lib.hid hO2
      have HB2 := Lib.hid (HB.out.trans hb2)
      clear hO2 hb2
      go_wp2_with fail
      go_ret
      exact ⟨_, rfl, HO2.out, HB2.out⟩
end Go.Proofs.Ytminnkihcohflaa

namespace Go.Proofs.Ytminnkihcohflaa
open Go.RowKit Go.Lib Go.Shelf

def pincl (lo hi t : Int) : Bool := pvalid lo hi && (decide (lo ≤ t) && decide (t < hi))
set_option maxHeartbeats 1000000 in
theorem incl_any (lo hi t : Int) (w : World) : Calls Try.prog 74 #[.agg #[.int .i64 lo, .int .i64 hi], .int .i64 t] w fun e w' => e = .returned (.bool (pincl lo hi t)) ∧ Below w.heap.size w w' := by
  have HR : Hid (pincl lo hi t = (pvalid lo hi && (decide (lo ≤ t) && decide (t < hi)))) := Lib.hid rfl
  have HV := fun W => Lib.hid (pvalid_any lo hi W)
  generalize pvalid lo hi = q at HR HV
  generalize pincl lo hi t = r at HR ⊢
  have hg := World.alloc_heap_new w (.cells #[.int .i64 lo, .int .i64 hi] 31)
  go_enter Try.func74, Try.ntmps74
  go_wp2_with fail
  refine (HV _).out.mono ?_
  rintro _ w2 ⟨rfl, hb⟩
  have hk := box_kept hg hb
  obtain ⟨d0, d1, _, _⟩ := box_two hk
  have HB := Lib.hid (below_alloc2' hb)
  clear hb hk hg
  cases q
  · go_wp2_with fail
    go_ret
    exact ⟨ret_bool (by rw [HR.out]; rfl), HB.out⟩
  · by_cases h1 : lo ≤ t
    · by_cases h2 : t < hi
      · go_wp2_with fail
        go_ret
        exact ⟨ret_bool (by rw [HR.out]; simp; omega), HB.out⟩
      · go_wp2_with fail
        go_ret
        exact ⟨ret_bool (by rw [HR.out]; simp; omega), HB.out⟩
    · go_wp2_with fail
      go_ret
      exact ⟨ret_bool (by rw [HR.out]; simp; omega), HB.out⟩
/-- The rows that hold on a day. -/
def atDay (l : List Tup) (t : Int) : List GRow := (l.filter fun x => pincl x.lo x.hi t).map fun x => ⟨x.vals, x.lin⟩
theorem atDay_snoc (l : List Tup) (x : Tup) (t : Int) : atDay (l ++ [x]) t = atDay l t ++ if pincl x.lo x.hi t = true then [⟨x.vals, x.lin⟩] else [] := by
  unfold atDay
  rw [List.filter_append, List.map_append]
  congr 1
  rw [List.filter_cons, List.filter_nil]
  split <;> rfl
theorem atDay_len (l : List Tup) (t : Int) : (atDay l t).length ≤ l.length := by unfold atDay; rw [List.length_map]; exact List.length_filter_le _ _
theorem atDay_small {l : List Tup} (h : ∀ x ∈ l, x.vals.length ≤ 1000 ∧ x.lin.length ≤ 1000) (t : Int) : ∀ x ∈ atDay l t, x.vals.length ≤ 1000 ∧ x.lin.length ≤ 1000 := by
  intro x hx
  unfold atDay at hx
  obtain ⟨y, hy, rfl⟩ := List.mem_map.1 hx
  exact h y (List.mem_filter.1 hy).1
set_option maxHeartbeats 4000000 in
set_option maxRecDepth 100000 in
theorem timeslice_any (v : Value) (l : List Tup) (t : Int) (w : World) (hv : Tups w v l) (hl : l.length ≤ 100000) (hs : ∀ x ∈ l, x.vals.length ≤ 1000 ∧ x.lin.length ≤ 1000) :
    Calls Try.prog 42 #[v, .int .i64 t] w (RetOwn rowE w (sortR (atDay l t))) := by
  obtain ⟨a, c, rfl⟩ := hv.shape
  have h63 := hv.1
  have HV := Lib.hid hv
  have HS := Lib.hid (atDay_small hs t)
  obtain ⟨n, hn⟩ : ∃ n, n = l.length := ⟨_, rfl⟩
  have HN := Lib.hid hn
  rw [← hn] at HV h63 hl ⊢
  clear hv hn hs
  go_enter Try.func42, Try.ntmps42
  go_wp2_with fail
  go_loopw [10, 5] (fun i o wr => ∃ k : Nat, k ≤ n ∧ i = .int .i64 k ∧ Own rowE wr w.heap.size o (atDay (l.take k) t) ∧ Hid (Below w.heap.size w wr)) (fun i _ _ => n - (RowKit.intOf i).toNat)
  case atStart => exact ⟨0, Nat.zero_le _, rfl, Own.nil _ _ _, Lib.hid (.refl _ _)⟩
  case round =>
    obtain ⟨k, hk, rfl, hO, HB⟩ := hrel
    obtain ⟨wo, rfl⟩ : ∃ wo : World, wo = wr := ⟨_, rfl⟩
    by_cases hlt : k < n
    · obtain ⟨x, hx⟩ := lget_some l k (by rw [← HN.out]; exact hlt)
      obtain ⟨b, o, a1, n1, e1, m1, rfl, hvv, hll, p0, p1, p2, p3⟩ := tups_at HV.out hx
      replace p0 := cell_keep HB.out p0
      replace p1 := cell_keep HB.out p1
      replace p2 := cell_keep HB.out p2
      replace p3 := cell_keep HB.out p3
      have HT : Hid (atDay (l.take (k + 1)) t = atDay (l.take k) t ++ if pincl x.lo x.hi t = true then [⟨x.vals, x.lin⟩] else []) := by show _ = _; rw [take_get hx, atDay_snoc]
      obtain ⟨lk, hlke⟩ : ∃ lk, lk = atDay (l.take k) t := ⟨_, rfl⟩
      have hlk : lk.length ≤ 100000 := by rw [hlke]; exact Nat.le_trans (atDay_len _ _) (by rw [List.length_take]; omega)
      rw [← hlke] at hO HT
      obtain ⟨ao, co, rfl⟩ := hO.shape
      obtain ⟨xv, xlo, xhi, xl⟩ := x
      dsimp only at p0 p1 p2 p3 hvv hll HT
      obtain ⟨q, hq⟩ : ∃ q, q = pincl xlo xhi t := ⟨_, rfl⟩
      have HI := fun W => Lib.hid (incl_any xlo xhi t W)
      rw [← hq] at HT HI
      have HVV := Lib.hid hvv
      have HLL := Lib.hid hll
      have hg := World.alloc_heap_new wo (.cells #[.slice a1 xv.length n1, .int .i64 xlo, .int .i64 xhi, .slice e1 xl.length m1] 67)
      have HB1 : Hid (Below w.heap.size w (wo.alloc (.cells #[.slice a1 xv.length n1, .int .i64 xlo, .int .i64 xhi, .slice e1 xl.length m1] 67))) := Lib.hid (below_alloc_keep HB.out)
      have HO1 := Lib.hid (hO.below (below_alloc wo (.cells #[.slice a1 xv.length n1, .int .i64 xlo, .int .i64 xhi, .slice e1 xl.length m1] 67)))
      have HG := Lib.hid hg
      clear hx hvv hll hO hlke hq hg
      go_wp2_with fail
      refine (HI _).out.mono ?_
      rintro _ w3 ⟨rfl, hb3⟩
      obtain ⟨⟨d0, d1, d2, d3⟩, _, _, _, _⟩ := box_four (box_kept HG.out hb3)
      have HB3 : Hid (Below w.heap.size w w3) := Lib.hid (below_keep HB1.out hb3)
      have HO3 := Lib.hid (HO1.out.below hb3)
      clear hb3 HG HB1 HO1 HI
      cases q
      · have HT' : Hid (atDay (l.take (k + 1)) t = lk) := by show _ = _; rw [HT.out, if_neg (by decide), List.append_nil]
        go_wp2_with fail
        go_roundw
        case rel => exact ⟨k + 1, by omega, by go_num, by rw [HT'.out]; exact HO3.out, HB3⟩
        case measure => simp [RowKit.intOf]; omega
      · have HT' : Hid (atDay (l.take (k + 1)) t = lk ++ [⟨xv, xl⟩]) := by show _ = _; rw [HT.out, if_pos rfl]
        go_wp2_with fail
        refine (tupleRow_any _ _ _ _ _ _ _ _ _ _ _ rfl rfl).mono ?_
        rintro _ w4 ⟨rfl, hb4⟩
        have HB4 : Hid (Below w.heap.size w w4) := Lib.hid (below_keep HB3.out hb4)
        have HO4 := Lib.hid (HO3.out.below hb4)
        have HIS : Hid (Els rowE w4 (fun j => some j = (Value.slice ao lk.length co).ownBlock) [⟨xv, xl⟩] [.slice a1 xv.length n1, .slice e1 xl.length m1]) := Lib.hid (Els.one ⟨_, _, rfl, ((HVV.out.old (Nat.le_refl _)).below HB4.out).mono (fun j _ hj => (HO4.out.lt j hj.symm).1), ((HLL.out.old (Nat.le_refl _)).below HB4.out).mono (fun j _ hj => (HO4.out.lt j hj.symm).1)⟩)
        clear hb4
        go_wp2_with (at_builtin; refine wpList_push rfl (.tmp 18) (.tmp 21) 85 rfl rowE Try.underlying85 w.heap.size (.slice ao lk.length co) lk rfl HO4.out [⟨xv, xl⟩] #[.slice a1 xv.length n1, .slice e1 xl.length m1] HIS.out 1 1 rfl rfl (by decide) (by unfold maxLen; omega) (by show _ * 48 ≤ _; omega) HB4.out.size ?_; intro g cap w5 hP hPa)
        go_roundw
        case rel => exact ⟨k + 1, by omega, by go_num, by rw [HT'.out]; exact hP.own' (by simp), Lib.hid (HB4.out.trans hP.below)⟩
        case measure => simp [RowKit.intOf]; omega
    · have hkk : l.take k = l := List.take_of_length_le (by rw [← HN.out]; omega)
      rw [hkk] at hO
      obtain ⟨ao, co, rfl⟩ := hO.shape
      have HSR := Lib.hid (bagSort_any _ (atDay l t) wo hO.sl (Nat.le_trans (atDay_len _ _) (by rw [← HN.out]; exact hl)) HS.out)
      clear hO hkk
      go_wp2_with fail
      refine HSR.out.mono ?_
      rintro _ w2 ⟨vo, rfl, hO2, hb2⟩
      obtain ⟨ao2, co2, rfl⟩ := hO2.shape
      have HO2 := Lib.hid (hO2.mono HB.out.size)
      have HB2 := Lib.hid (below_keep HB.out hb2)
      clear hO2 hb2
      go_wp2_with fail
      go_ret
      exact ⟨_, rfl, HO2.out, HB2.out⟩
theorem sameRow_refl (x : GRow) : sameRowL x.vals x.vals x.lin x.lin = true := by
  unfold sameRowL
  rw [(cmpRows_zero _ _).2 rfl, (cmpInts_zero _ _).2 rfl]
  rfl
set_option maxHeartbeats 4000000 in
set_option maxRecDepth 100000 in
/-- Rows that are the same are the same. -/
theorem sameRows_eq (v u : Value) (l : List GRow) (w : World) (hv : Sl rowE w free v l) (hu : Sl rowE w free u l) :
    Calls Try.prog 41 #[v, u] w fun e w' => e = .returned (.bool true) ∧ Below w.heap.size w w' := by
  obtain ⟨a, c, rfl⟩ := hv.shape
  obtain ⟨a2, c2, rfl⟩ := hu.shape
  have h63 := hv.1
  have HV := Lib.hid hv
  have HU := Lib.hid hu
  obtain ⟨n, hn⟩ : ∃ n, n = l.length := ⟨_, rfl⟩
  have HN := Lib.hid hn
  rw [← hn] at HV HU h63 ⊢
  clear hv hu hn
  go_enter Try.func41, Try.ntmps41
  go_wp2_with fail
  go_loopw [5] (fun i wr => ∃ k : Nat, k ≤ n ∧ i = .int .i64 k ∧ Hid (Below w.heap.size w wr)) (fun i _ => n - (RowKit.intOf i).toNat)
  case atStart => exact ⟨0, Nat.zero_le _, rfl, Lib.hid (.refl _ _)⟩
  case round =>
    obtain ⟨k, hk, rfl, HB⟩ := hrel
    obtain ⟨wo, rfl⟩ : ∃ wo : World, wo = wr := ⟨_, rfl⟩
    by_cases hlt : k < n
    · obtain ⟨x, hx⟩ := lget_some l k (by rw [← HN.out]; exact hlt)
      obtain ⟨b, o, a1, n1, e1, m1, rfl, hv1, hu1, p0, p1⟩ := rows_at (HV.out.below HB.out) hx
      obtain ⟨b2, o2, a3, n3, e3, m3, rfl, hv2, hu2, q0, q1⟩ := rows_at (HU.out.below HB.out) hx
      have HSM := fun W (h : Below wo.heap.size wo W) => Lib.hid (sameRow_any _ _ _ _ x.vals x.vals x.lin x.lin W (hv1.below h).vals (hu1.below h).ints (hv2.below h).vals (hu2.below h).ints)
      rw [sameRow_refl] at HSM
      have hbo : Below wo.heap.size wo wo := .refl _ _
      clear hx hv1 hu1 hv2 hu2
      go_wp2_with fail
      go_region_held3 (fun W => Below wo.heap.size wo W ∧ W.cell? ⟨b, o + k * 2, none⟩ = some (.slice a1 x.vals.length n1) ∧ W.cell? ⟨b, o + k * 2 + 1, none⟩ = some (.slice e1 x.lin.length m1) ∧ W.cell? ⟨b2, o2 + k * 2, none⟩ = some (.slice a3 x.vals.length n3) ∧ W.cell? ⟨b2, o2 + k * 2 + 1, none⟩ = some (.slice e3 x.lin.length m3))
        ((go_split_ands; refine ⟨?_, ?_, ?_, ?_, ?_⟩ <;> (first | with_reducible assumption | with_reducible exact Below.drew (by assumption) | with_reducible exact cell_drew (by assumption) | with_reducible exact cell_keep (by assumption) (by assumption) | with_reducible exact below_keep (by assumption) (by assumption))))
        (first | (go_at_call 49; go_split_ands; refine (HSM _ (by first | assumption | exact Below.drew (by assumption))).out.mono ?_; rintro e' wS ⟨rfl, hbS⟩))
      all_goals (
        go_split_ands
        have HBS : Hid (Below w.heap.size w wS) := Lib.hid (below_keep HB.out (by assumption))
        go_wp2_with fail
        go_roundw
        case rel => exact ⟨k + 1, by omega, by go_num, HBS⟩
        case measure => simp [RowKit.intOf]; omega)
    · go_wp2_with fail
      go_ret
      exact ⟨rfl, HB.out⟩
end Go.Proofs.Ytminnkihcohflaa
