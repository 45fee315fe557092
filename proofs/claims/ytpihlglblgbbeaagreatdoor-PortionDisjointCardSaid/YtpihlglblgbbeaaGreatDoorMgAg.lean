/- A part of the proofs: Nrp, ShSe, Evs, Lvw, MapS, ShSt, Cmt, Nrm, Sam, Dlt, Pou, Pdw, Lift, OpenG, LaidP, Open, OpenW, OpenX, LawPDisj. No condition beside sizes and tables that read as laid. -/
import Derived.Test.YtpihlglblgbbeaaGreatDoorMgAf
import Derived.Shelf.SlLaysF0
import Derived.Test.YtpihlglblgbbeaaGreatDoorProg
import Derived.Test.YtpihlglblgbbeaaGreatDoorMgAe
import Derived.Test.YtpihlglblgbbeaaGreatDoorMgAa
import Derived.Maps.OwnSet
import Derived.Maps.OwnOps
import Derived.Maps.RangeWalk
import Derived.Maps.Views
import Derived.Shelf.SlSortCmp.NoneTotal
import Derived.Deep.DeepCutAuto
import Derived.Test.YtpihlglblgbbeaaGreatDoorRows
import Derived.ProofKit
import Derived.OpenShut
import Derived.Carry
import Derived.Deep.DeepHandedRow
import Derived.Lib.LaidTab
import Derived.Shelf.Vars
import Derived.Deep.Slices
import Derived.Test.YtpihlglblgbbeaaGreatDoorChecked
import Derived.Stop.LaidErr
import Derived.LaidLaws
import Derived.Test.YtpihlglblgbbeaaGreatDoorCards
import Derived.Test.YtpihlglblgbbeaaGreatDoorTie
namespace Go.Proofs.YtpihlglblgbbeaaGreatDoor
open Go.RowKit

def keyT (x : Tup) : List UInt8 := rowKeyL x.row
/-- The periods of the tuples with that key. -/
def perOf (l : List Tup) (s : List UInt8) : List (Int × Int) := (l.filter fun x => pvalid x.lo x.hi && (keyT x == s)).map fun x => (x.lo, x.hi)
theorem perOf_snoc (l : List Tup) (x : Tup) (s : List UInt8) : perOf (l ++ [x]) s = perOf l s ++ if (pvalid x.lo x.hi && (keyT x == s)) = true then [(x.lo, x.hi)] else [] := by
  unfold perOf
  rw [List.filter_append, List.map_append]
  congr 1
  rw [List.filter_cons, List.filter_nil]
  split <;> rfl
theorem perOf_valid (l : List Tup) (s : List UInt8) : ∀ p ∈ perOf l s, pvalid p.1 p.2 = true := by
  intro p hp
  unfold perOf at hp
  obtain ⟨x, hx, rfl⟩ := List.mem_map.1 hp
  have := (List.mem_filter.1 hx).2
  rw [Bool.and_eq_true] at this
  exact this.1
theorem perOf_len (l : List Tup) (s : List UInt8) : (perOf l s).length ≤ l.length := by unfold perOf; rw [List.length_map]; exact List.length_filter_le _ _
theorem perOf_cnt (l : List Tup) (r : GRow) (t : Int) : atDay (l.filter fun x => keyT x == rowKeyL r) t = List.replicate (cntP (perOf l (rowKeyL r)) t) r := by
  induction l with
  | nil => rfl
  | cons x l ih =>
    by_cases h1 : keyT x = rowKeyL r
    · have hr : x.row = r := rowKey_inj h1
      rw [List.filter_cons, if_pos (by simpa using h1), atDay_cons, ih]
      by_cases h2 : pvalid x.lo x.hi = true
      · have e : perOf (x :: l) (rowKeyL r) = (x.lo, x.hi) :: perOf l (rowKeyL r) := by unfold perOf; rw [List.filter_cons, if_pos (by simp [h1, h2])]; rfl
        have ec : cntP ((x.lo, x.hi) :: perOf l (rowKeyL r)) t = cntP (perOf l (rowKeyL r)) t + if pincl x.lo x.hi t = true then 1 else 0 := by unfold cntP; rw [List.countP_cons]
        rw [e, ec]
        split
        · rw [List.replicate_succ, hr]
        · rfl
      · have e : perOf (x :: l) (rowKeyL r) = perOf l (rowKeyL r) := by unfold perOf; rw [List.filter_cons, if_neg (by simp [h2])]
        rw [e, if_neg (fun h => h2 (pincl_iff.1 h).1)]
    · have e : perOf (x :: l) (rowKeyL r) = perOf l (rowKeyL r) := by unfold perOf; rw [List.filter_cons, if_neg (by simp [h1])]
      rw [List.filter_cons, if_neg (by simpa using h1), ih, e]
/-- What is made of the tuples whose keys are done. -/
structure NrmI (l : List Tup) (L : List UInt8 → Bool) (out : List Tup) : Prop where
  lev : Lev out
  key : ∀ x ∈ out, L (keyT x) = false
  day : ∀ t, (atDay out t).Perm (atDay (l.filter fun x => !L (keyT x)) t)
  len : out.length ≤ (l.filter fun x => pvalid x.lo x.hi && !L (keyT x)).length
theorem NrmI.start {l : List Tup} {L : List UInt8 → Bool} (h : ∀ x ∈ l, pvalid x.lo x.hi = true → L (keyT x) = true) : NrmI l L [] := by
  refine ⟨Lev.nil, by simp, fun t => ?_, Nat.zero_le _⟩
  have : atDay (l.filter fun x => !L (keyT x)) t = [] := by
    refine List.eq_nil_iff_forall_not_mem.2 fun r hr => ?_
    obtain ⟨x, hx, _, hi⟩ := mem_atDay.1 hr
    obtain ⟨h1, h2⟩ := List.mem_filter.1 hx
    rw [h x h1 (pincl_iff.1 hi).1] at h2
    cases h2
  rw [this]
  exact .refl _
theorem filter_parts {l : List Tup} {p q r : Tup → Bool} (h : ∀ x, r x = (p x || q x)) (hd : ∀ x, p x = true → q x = false) : (l.filter p ++ l.filter q).Perm (l.filter r) := by
  have h1 := List.filter_append_perm p (l.filter r)
  rw [List.filter_filter, List.filter_filter] at h1
  have e1 : (fun a => p a && r a) = p := by funext x; rw [h x]; cases p x <;> simp
  have e2 : (fun a => !p a && r a) = q := by
    funext x
    rw [h x]
    cases hp : p x
    · simp
    · simp [hd x hp]
  rw [e1, e2] at h1
  exact h1
theorem NrmI.step {l out M : List _} {L : List UInt8 → Bool} {r : GRow} (h : NrmI l L out) (hL : L (rowKeyL r) = true) (hM : LevOf (perOf l (rowKeyL r)) M) (hlen : M.length ≤ (perOf l (rowKeyL r)).length) :
    NrmI l (fun z => L z && !(z == rowKeyL r)) (out ++ M.map fun p => (⟨r.vals, p.1, p.2, r.lin⟩ : Tup)) := by
  obtain ⟨h1, h2⟩ := lev_rows hM r
  have hk : ∀ y ∈ M.map (fun p => (⟨r.vals, p.1, p.2, r.lin⟩ : Tup)), keyT y = rowKeyL r := by
    intro y hy
    obtain ⟨p, _, rfl⟩ := List.mem_map.1 hy
    rfl
  refine ⟨⟨fun x hx => ?_, ?_⟩, fun x hx => ?_, fun t => ?_, ?_⟩
  · rcases List.mem_append.1 hx with hx | hx
    · exact h.lev.valid x hx
    · exact h1.valid x hx
  · rw [List.pairwise_append]
    refine ⟨h.lev.lam, h1.lam, fun x hx y hy e => ?_⟩
    have h3 := h.key x hx
    have h4 : keyT x = keyT y := congrArg rowKeyL e
    rw [h4, hk y hy, hL] at h3
    cases h3
  · rcases List.mem_append.1 hx with hx | hx
    · rw [h.key x hx]; rfl
    · rw [hk x hx]; simp
  · rw [atDay_append, h2 t, ← perOf_cnt l r t]
    refine ((h.day t).append_right _).trans ?_
    rw [← atDay_append]
    refine atDay_perm (filter_parts (fun x => ?_) fun x hx => ?_) t
    · cases L (keyT x) <;> cases (keyT x == rowKeyL r) <;> rfl
    · rw [beq_eq_false_iff_ne]
      intro e
      rw [e, hL] at hx
      cases hx
  · have hp := (filter_parts (l := l) (p := fun x => pvalid x.lo x.hi && !L (keyT x)) (q := fun x => pvalid x.lo x.hi && (keyT x == rowKeyL r)) (r := fun x => pvalid x.lo x.hi && !(L (keyT x) && !(keyT x == rowKeyL r))) (fun x => by
      cases pvalid x.lo x.hi <;> cases L (keyT x) <;> cases (keyT x == rowKeyL r) <;> rfl) fun x hx => by
        cases hk : (keyT x == rowKeyL r)
        · simp
        · rw [beq_iff_eq] at hk
          rw [hk, hL] at hx
          simp at hx).length_eq
    rw [List.length_append] at hp
    rw [List.length_append, List.length_map]
    have e : (perOf l (rowKeyL r)).length = (l.filter fun x => pvalid x.lo x.hi && (keyT x == rowKeyL r)).length := by unfold perOf; rw [List.length_map]
    have := h.len
    omega
theorem NrmI.done {l out T : List Tup} {L : List UInt8 → Bool} (h : NrmI l L out) (hL : ∀ s, L s = false) (hp : T.Perm out) (hs : T.Pairwise fun a b => ¬ cmpTup b a < 0) : IsNF l T := by
  refine ⟨h.lev.perm hp.symm, hs, fun t => (atDay_perm hp t).trans ((h.day t).trans ?_)⟩
  have : (l.filter fun x => !L (keyT x)) = l := List.filter_eq_self.2 fun x _ => by rw [hL]; rfl
  rw [this]
theorem NrmI.small {l out : List Tup} {L : List UInt8 → Bool} (h : NrmI l L out) : out.length ≤ l.length := Nat.le_trans h.len (List.length_filter_le _ _)
end Go.Proofs.YtpihlglblgbbeaaGreatDoor

namespace Go.Proofs.YtpihlglblgbbeaaGreatDoor
open Go.Shelf
def sh_sortEvs_ren : Go.Shelf.Ren := ⟨fun | 6 => 67 | 15 => 71 | 14 => 82 | 28 => 92 | 29 => 93 | 20 => 103 | 21 => 104 | 22 => 105 | 23 => 106 | 24 => 107 | 25 => 108 | 26 => 109 | 27 => 110 | 46 => 122 | 47 => 112 | 48 => 113 | 49 => 123 | 50 => 124 | 57 => 131 | n => n, fun | 22 => 125 | 24 => 127 | 25 => 129 | 3 => 3 | 39 => 133 | 0 => 0 | 53 => 154 | 55 => 156 | 4 => 4 | 46 => 148 | 45 => 147 | 50 => 78 | 5 => 5 | 9 => 9 | 66 => 171 | 70 => 175 | 76 => 183 | 77 => 184 | n => n, fun | n => n⟩
theorem sh_sortEvs : Go.Proofs.SlLaysF0.n6 Tryz.prog sh_sortEvs_ren := {
  mixed := by kernel_rfl
  f6 := ⟨Tryz.f67.name, by decide, Tryz.func67.trans (congrArg some (by kernel_rfl))⟩
  f14 := ⟨Tryz.f82.name, by decide, Tryz.func82.trans (congrArg some (by kernel_rfl))⟩
  f15 := Tryz.func71.trans (congrArg some (by kernel_rfl))
  f20 := ⟨Tryz.f103.name, by decide, Tryz.func103.trans (congrArg some (by kernel_rfl))⟩
  f21 := ⟨Tryz.f104.name, by decide, Tryz.func104.trans (congrArg some (by kernel_rfl))⟩
  f22 := ⟨Tryz.f105.name, by decide, Tryz.func105.trans (congrArg some (by kernel_rfl))⟩
  f23 := ⟨Tryz.f106.name, by decide, Tryz.func106.trans (congrArg some (by kernel_rfl))⟩
  f24 := ⟨Tryz.f107.name, by decide, Tryz.func107.trans (congrArg some (by kernel_rfl))⟩
  f25 := ⟨Tryz.f108.name, by decide, Tryz.func108.trans (congrArg some (by kernel_rfl))⟩
  f26 := ⟨Tryz.f109.name, by decide, Tryz.func109.trans (congrArg some (by kernel_rfl))⟩
  f27 := ⟨Tryz.f110.name, by decide, Tryz.func110.trans (congrArg some (by kernel_rfl))⟩
  f28 := Tryz.func92.trans (congrArg some (by kernel_rfl))
  f29 := Tryz.func93.trans (congrArg some (by kernel_rfl))
  f46 := ⟨Tryz.f122.name, by decide, Tryz.func122.trans (congrArg some (by kernel_rfl))⟩
  f47 := Tryz.func112.trans (congrArg some (by kernel_rfl))
  f48 := Tryz.func113.trans (congrArg some (by kernel_rfl))
  f49 := ⟨Tryz.f123.name, by decide, Tryz.func123.trans (congrArg some (by kernel_rfl))⟩
  f50 := ⟨Tryz.f124.name, by decide, Tryz.func124.trans (congrArg some (by kernel_rfl))⟩
  f57 := ⟨Tryz.f131.name, by decide, Tryz.func131.trans (congrArg some (by kernel_rfl))⟩
  t0 := Tryz.underlying0
  a0 := Tryz.isAgg0
  z0 := Tryz.sizeOf0
  v0 := Tryz.zeroValue0
  t3 := Tryz.underlying3
  a3 := Tryz.isAgg3
  z3 := Tryz.sizeOf3
  v3 := Tryz.zeroValue3
  t4 := Tryz.underlying4
  a4 := Tryz.isAgg4
  z4 := Tryz.sizeOf4
  v4 := Tryz.zeroValue4
  t5 := Tryz.underlying5
  a5 := Tryz.isAgg5
  z5 := Tryz.sizeOf5
  v5 := Tryz.zeroValue5
  t9 := Tryz.underlying9
  a9 := Tryz.isAgg9
  z9 := Tryz.sizeOf9
  v9 := Tryz.zeroValue9
  t22 := Tryz.underlying125
  a22 := Tryz.isAgg125
  z22 := Tryz.sizeOf125
  v22 := Tryz.zeroValue125
  t25 := Tryz.underlying129
  a25 := Tryz.isAgg129
  z25 := Tryz.sizeOf129
  v25 := Tryz.zeroValue129
  t39 := Tryz.underlying133
  a39 := Tryz.isAgg133
  z39 := Tryz.sizeOf133
  v39 := Tryz.zeroValue133
  t45 := Tryz.underlying147
  a45 := Tryz.isAgg147
  z45 := Tryz.sizeOf147
  v45 := Tryz.zeroValue147
  t46 := Tryz.underlying148
  a46 := Tryz.isAgg148
  z46 := Tryz.sizeOf148
  v46 := Tryz.zeroValue148
  t50 := Tryz.underlying78
  a50 := Tryz.isAgg78
  z50 := Tryz.sizeOf78
  v50 := Tryz.zeroValue78
  t53 := Tryz.underlying154
  a53 := Tryz.isAgg154
  z53 := Tryz.sizeOf154
  v53 := Tryz.zeroValue154
  t55 := Tryz.underlying156
  a55 := Tryz.isAgg156
  z55 := Tryz.sizeOf156
  v55 := Tryz.zeroValue156
  t66 := Tryz.underlying171
  a66 := Tryz.isAgg171
  z66 := Tryz.sizeOf171
  v66 := Tryz.zeroValue171
  t70 := Tryz.underlying175
  a70 := Tryz.isAgg175
  z70 := Tryz.sizeOf175
  v70 := Tryz.zeroValue175
  t76 := Tryz.underlying183
  a76 := Tryz.isAgg183
  z76 := Tryz.sizeOf183
  v76 := Tryz.zeroValue183
  t77 := Tryz.underlying184
  a77 := Tryz.isAgg184
  z77 := Tryz.sizeOf184
  v77 := Tryz.zeroValue184 }
end Go.Proofs.YtpihlglblgbbeaaGreatDoor

namespace Go.Proofs.YtpihlglblgbbeaaGreatDoor
open Go.RowKit Go.Lib Go.Shelf Go.Sort

section
variable {P : Program} {α : Type}
theorem Own.shrink {E : El P α} {w : World} {B g n c k : Nat} {l : List α} (h : Own E w B (.slice (some ⟨g, 0, none⟩) n c) l) (hn : l.length = n) (hk : k ≤ n) : Own E w B (.slice (some ⟨g, 0, none⟩) k c) (l.take k) := by
  obtain ⟨xs, ⟨h0, h1⟩, h2⟩ := h
  subst hn
  rcases h1 with ⟨h1, _⟩ | ⟨g', cap, cur, e, hg, hh, hc, hm, hs, ht⟩
  · cases h1
  cases e
  have hlk : (l.take k).length = k := by rw [List.length_take]; omega
  have hle : k * E.size ≤ l.length * E.size := Nat.mul_le_mul_right _ hk
  refine ⟨xs.take (k * E.size), ⟨by rw [List.length_take, h0, hlk]; omega, .inr ⟨g, c, cur, by rw [hlk], hg, hh, by rw [hlk]; omega, hm, hs, by rw [hlk, ← ht, List.take_take, Nat.min_eq_left hle]⟩⟩, fun i x hx => ?_⟩
  rw [List.getElem?_take] at hx
  split at hx
  · rename_i hik
    have hle2 : (i + 1) * E.size ≤ k * E.size := Nat.mul_le_mul_right _ hik
    rw [Nat.add_mul, Nat.one_mul] at hle2
    have := h2 i x hx
    rw [List.drop_take, List.take_take, Nat.min_eq_left (by omega)]
    exact this
  · cases hx
end
theorem per_info : (Tryz.prog.info? 28).map (fun i => (i.zero, i.size, i.bytes)) = some (some (.agg #[.int .i64 0, .int .i64 0]), 2, 16) := by kernel_rfl
theorem ev_info : (Tryz.prog.info? 127).map (fun i => (i.zero, i.size, i.bytes)) = some (some (.agg #[.int .i64 0, .int .i64 0]), 2, 16) := by kernel_rfl
/-- Periods. -/
def perE : El Tryz.prog (Int × Int) := El.flat 28 2 16 (by decide) (info_mk per_info rfl) (fun x => [.int .i64 x.1, .int .i64 x.2]) (fun _ => rfl) (by intro x u hu; simp at hu; rcases hu with rfl | rfl <;> rfl)
/-- Events. -/
def evE : El Tryz.prog (Int × Int) := El.flat 127 2 16 (by decide) (info_mk ev_info rfl) (fun x => [.int .i64 x.1, .int .i64 x.2]) (fun _ => rfl) (by intro x u hu; simp at hu; rcases hu with rfl | rfl <;> rfl)
theorem pers_at {w : World} {G : Nat → Prop} {a : Option Addr} {n c k : Nat} {l : List (Int × Int)} {x : Int × Int} (h : Sl perE w G (.slice a n c) l) (hk : l[k]? = some x) :
    ∃ b o, a = some ⟨b, o, none⟩ ∧ w.cell? ⟨b, o + k * 2, none⟩ = some (.int .i64 x.1) ∧ w.cell? ⟨b, o + k * 2 + 1, none⟩ = some (.int .i64 x.2) := by
  obtain ⟨b, o, cs, ha, rfl, hc⟩ := Sl.at h hk
  exact ⟨b, o, ha, hc 0 _ rfl, hc 1 _ rfl⟩
theorem evs_at {w : World} {B g n c k : Nat} {l : List (Int × Int)} {x : Int × Int} (h : Own evE w B (.slice (some ⟨g, 0, none⟩) n c) l) (hk : l[k]? = some x) :
    w.cell? ⟨g, k * 2, none⟩ = some (.int .i64 x.1) ∧ w.cell? ⟨g, k * 2 + 1, none⟩ = some (.int .i64 x.2) := by
  obtain ⟨cs, rfl, hc⟩ := Own.at h hk
  exact ⟨hc 0 _ rfl, hc 1 _ rfl⟩
theorem box_two' {w : World} {g : Nat} {x y : Value} {e : TypeId} (h : w.heap[g]? = some (.cells #[x, y] e (0, 0))) : w.cell? ⟨g, 0, none⟩ = some x ∧ w.cell? ⟨g, 1, none⟩ = some y := by
  constructor <;> simp [World.cell?, h]
set_option maxHeartbeats 1000000 in
theorem evCmp_g (a b : Int × Int) (w : World) : Calls Tryz.prog 68 #[.agg #[.int .i64 a.1, .int .i64 a.2], .agg #[.int .i64 b.1, .int .i64 b.2]] w fun e w' => e = .returned (.int .i64 (cmpI a.1 b.1)) ∧ Grew w w' := by
  obtain ⟨a1, a2⟩ := a
  obtain ⟨b1, b2⟩ := b
  dsimp only
  have HC := fun W => Lib.hid (cmpInt_any a1 b1 W)
  generalize cmpI a1 b1 = r at HC ⊢
  have hB0 := grew_alloc2 w (.cells #[.int .i64 a1, .int .i64 a2] 127) (.cells #[.int .i64 b1, .int .i64 b2] 127)
  obtain ⟨d0, d1⟩ := box_two' (heap_alloc_old' w (.cells #[.int .i64 a1, .int .i64 a2] 127) (.cells #[.int .i64 b1, .int .i64 b2] 127))
  obtain ⟨e0, e1⟩ := box_two' (heap_alloc_new' w (.cells #[.int .i64 a1, .int .i64 a2] 127) (.cells #[.int .i64 b1, .int .i64 b2] 127))
  have HB := Lib.hid hB0
  clear hB0
  go_enter Tryz.func68, Tryz.ntmps68
  go_wp2_with fail
  refine (HC _).out.mono ?_
  rintro _ w2 ⟨rfl, rfl⟩
  go_wp2_with fail
  go_ret
  exact ⟨rfl, HB.out⟩
theorem swo_ev {β : Type} (f : β → Int × Int) : SWO (ltOf fun x y : β => cmpI (f x).1 (f y).1) where
  irrefl x := by
    show decide (cmpI (f x).1 (f x).1 < 0) = false
    rw [cmpI_zero.2 rfl]
    rfl
  trans x y z h1 h2 := by
    have h := sgn_int (f x).1 (f y).1 (f z).1
    have h1' : decide (cmpI (f x).1 (f y).1 < 0) = true := h1
    have h2' : decide (cmpI (f y).1 (f z).1 < 0) = true := h2
    show decide (cmpI (f x).1 (f z).1 < 0) = true
    unfold Sgn3 at h
    rw [decide_eq_true_eq] at h1' h2' ⊢
    omega
  ntrans x y z h1 h2 := by
    have h := sgn_int (f z).1 (f y).1 (f x).1
    rw [cmpI_swap (f y).1 (f z).1, cmpI_swap (f x).1 (f y).1, cmpI_swap (f x).1 (f z).1] at h
    have h1' : decide (cmpI (f x).1 (f y).1 < 0) = false := h1
    have h2' : decide (cmpI (f y).1 (f z).1 < 0) = false := h2
    show decide (cmpI (f x).1 (f z).1 < 0) = false
    unfold Sgn3 at h
    rw [decide_eq_false_iff_not] at h1' h2' ⊢
    omega
theorem cmpI_lt {a b : Int} : cmpI a b < 0 ↔ a < b := by unfold cmpI; split <;> (try split) <;> omega
theorem sortEvs_any (v : Value) (l : List (Int × Int)) (B : Nat) (w : World) (hO : Own evE w B v l) (hl : l.length ≤ 1000000) :
    Calls Tryz.prog 67 #[v, .func (.func 68) #[] #[]] w fun e w' => e = .returned (.tuple #[]) ∧ ∃ l' : List (Int × Int), l'.Perm l ∧ l'.Pairwise (fun x y => x.1 ≤ y.1) ∧ Own evE w' B v l' ∧ Kept (fun k => some k = v.ownBlock) w w' ∧ RowKit.Below B w w' := by
  rcases Nat.eq_zero_or_pos l.length with h0 | hpos
  · have hl0 : l = [] := List.eq_nil_of_length_eq_zero h0
    subst hl0
    obtain ⟨a, c, rfl⟩ := hO.shape
    refine (AnyF.slices_SortFunc_none sh_sortEvs a c _ w).mono ?_
    rintro _ w' ⟨rfl, rfl⟩
    exact ⟨rfl, [], .refl _, .nil, hO, ⟨Nat.le_refl _, fun _ _ _ => rfl⟩, .refl _ _⟩
  · obtain ⟨g, c, rfl⟩ := Own.shape_lt hO hpos
    have hgl := (hO.lt g rfl).2
    refine (own_sorted (fun x y => cmpI x.1 y.1) hO rfl hpos fun d hd hH hK => ?_).mono ?_
    · have eg : ∀ args w, (callFunc 68 args).run Tryz.prog w = .ok (.enter 68 args) w := enters_of Tryz.func68 (by kernel_rfl) rfl
      have hcmp : CmpLays Tryz.prog 68 #[] (Cel.cells (E := evE) (w := w) (g := g)) 2 (fun x y => cmpI x.val.1 y.val.1) g 0 d.size w := fun m os dk hdk x y => by
        have e1 : x.cells = [.int .i64 x.val.1, .int .i64 x.val.2] := x.is
        have e2 : y.cells = [.int .i64 y.val.1, .int .i64 y.val.2] := y.is
        rw [e1, e2]
        exact evCmp_g x.val y.val _
      have := AnyQ.slices_SortFunc sh_sortEvs 2 (fun w => Tryz.isAgg127 w) (fun w => Tryz.sizeOf127 w) (Cel.cells (E := evE) (w := w) (g := g)) Cel.len Cel.one (fun x y => cmpI x.val.1 y.val.1) (swo_ev Cel.val) 68 #[] g 0 c d w eg hcmp hH hgl (by omega)
      have e : Value.slice (some ⟨g, 0, none⟩) d.size c = .slice (some ⟨g, 0, none⟩) l.length c := by rw [hd]
      rw [e] at this
      exact this
    · rintro _ w' ⟨rfl, l', hp, hs, hO', hk, hb⟩
      refine ⟨rfl, l', hp, hs.imp (by intro x y h; rw [cmpI_lt] at h; omega), hO', ?_, hb⟩
      refine ⟨hk.1, fun k hk1 hk2 => hk.2 k hk1 (fun e => hk2 ?_)⟩
      cases e; rfl
end Go.Proofs.YtpihlglblgbbeaaGreatDoor

namespace Go.Proofs.YtpihlglblgbbeaaGreatDoor
open Go.RowKit Go.Lib

section
variable {P : Program} {α β : Type}
/-- Elements that lead nowhere. -/
def El.Flat (E : El P α) : Prop := ∀ {w w' : World} {G G' : Nat → Prop} {x : α} {cs : List Value}, E.is w G x cs → E.is w' G' x cs
/-- Two rows lie in two blocks. -/
def Apart (v u : Value) : Prop := ∀ k, v.ownBlock = some k → u.ownBlock ≠ some k
theorem Apart.symm {v u : Value} (h : Apart v u) : Apart u v := fun k hk e => h k e hk
theorem Own.kept_flat {E : El P α} (hF : E.Flat) {w w' : World} {G : Nat → Prop} {B : Nat} {v : Value} {l : List α} (h : Own E w B v l) (hk : Kept G w w') (hG : ∀ k, v.ownBlock = some k → ¬ G k) : Own E w' B v l := by
  obtain ⟨xs, ⟨h0, h1⟩, h2⟩ := h
  refine ⟨xs, ⟨h0, ?_⟩, fun i x hx => hF (h2 i x hx)⟩
  rcases h1 with h1 | ⟨g, cap, cur, e, hg, hh, r⟩
  · exact .inl h1
  · exact .inr ⟨g, cap, cur, e, hg, by rw [hk.2 g (Array.getElem?_eq_some_iff.1 hh).1 (hG g (by rw [e]; rfl))]; exact hh, r⟩
theorem Pushed.apart {E : El P α} {B : Nat} {w0 w' : World} {v u : Value} {l : List α} {g cap n : Nat} (h : Pushed E B w0 w' v l g cap) (ha : Apart v u) (hu : ∀ k, u.ownBlock = some k → k < w0.heap.size) : Apart (.slice (some ⟨g, 0, none⟩) n cap) u := by
  intro k hk e
  have hk' : some g = some k := hk
  cases hk'
  rcases h.place with h1 | h1
  · exact ha g h1 e
  · have := hu g e; omega
theorem Pushed.keep {E : El P α} {F : El P β} (hF : F.Flat) {B B' : Nat} {w0 w' : World} {v u : Value} {l : List α} {m : List β} {g cap : Nat} (h : Pushed E B w0 w' v l g cap) (ha : Apart v u) (hO : Own F w0 B' u m) : Own F w' B' u m :=
  hO.kept_flat hF h.kept fun k hk e => ha k e.symm hk
end
theorem perE_flat : perE.Flat (P := Tryz.prog) := fun h => h
theorem evE_flat : evE.Flat (P := Tryz.prog) := fun h => h
theorem intE_flat : intE.Flat (P := Tryz.prog) := fun h => h
def slLen : Value → Nat
  | .slice _ n _ => n
  | _ => 0
theorem apart_none (u : Value) : Apart (.slice none 0 0) u := fun k hk => by cases hk
theorem evsOf_snoc (l : List (Int × Int)) (x : Int × Int) : evsOf (l ++ [x]) = evsOf l ++ [(x.1, 1), (x.2, -1)] := by unfold evsOf; rw [List.flatMap_append]; rfl
set_option maxHeartbeats 8000000 in
set_option maxRecDepth 100000 in
theorem levels_any (v : Value) (ps : List (Int × Int)) (w : World) (hv : Sl perE w free v ps) (hl : ps.length ≤ 100000) (hval : ∀ p ∈ ps, pvalid p.1 p.2 = true) :
    Calls Tryz.prog 48 #[v] w fun e w' => ∃ M, LevOf ps M ∧ M.length ≤ ps.length ∧ RetOwn perE w M e w' := by
  obtain ⟨a, c, rfl⟩ := hv.shape
  have HV := Lib.hid hv
  have HVAL := Lib.hid hval
  obtain ⟨n, hn⟩ : ∃ n, n = ps.length := ⟨_, rfl⟩
  have HN := Lib.hid hn
  rw [← hn] at hl HV ⊢
  clear hv hval hn
  go_enter Tryz.func48, Tryz.ntmps48
  go_wp2_with fail
  go_loopw [13, 3] (fun i o wr => ∃ k : Nat, k ≤ n ∧ i = .int .i64 k ∧ Own evE wr w.heap.size o (evsOf (ps.take k)) ∧ Hid (Below w.heap.size w wr)) (fun i _ _ => n - (RowKit.intOf i).toNat)
  case atStart => exact ⟨0, Nat.zero_le _, rfl, Own.nil _ _ _, Lib.hid (.refl _ _)⟩
  case round =>
    obtain ⟨k, hk, rfl, hO, HB⟩ := hrel
    obtain ⟨wo, rfl⟩ : ∃ wo : World, wo = wr := ⟨_, rfl⟩
    by_cases hlt : k < n
    · obtain ⟨x, hx⟩ := lget_some ps k (by rw [← HN.out]; exact hlt)
      obtain ⟨b, o, rfl, p0, p1⟩ := pers_at (HV.out.below HB.out) hx
      have HT : Hid (evsOf (ps.take (k + 1)) = evsOf (ps.take k) ++ [(x.1, 1), (x.2, -1)]) := by show _ = _; rw [take_get hx, evsOf_snoc]
      have hlk : (evsOf (ps.take k)).length = 2 * k := by rw [evs_length, List.length_take, ← HN.out, Nat.min_eq_left hk]
      obtain ⟨lk, hlke⟩ : ∃ lk, lk = evsOf (ps.take k) := ⟨_, rfl⟩
      rw [← hlke] at hO HT hlk
      obtain ⟨ao, co, rfl⟩ := hO.shape
      obtain ⟨x1, x2⟩ := x
      dsimp only at p0 p1 HT
      have HLK := Lib.hid hlk
      have HB1 : Hid (Below w.heap.size w (wo.alloc (.cells #[.int .i64 x1, .int .i64 x2] 28))) := Lib.hid (below_alloc_keep HB.out)
      have HO1 := Lib.hid (hO.below (below_alloc wo (.cells #[.int .i64 x1, .int .i64 x2] 28)))
      have HIS : Hid (Els evE (wo.alloc (.cells #[.int .i64 x1, .int .i64 x2] 28)) (fun j => some j = (Value.slice ao lk.length co).ownBlock) [(x1, 1), (x2, -1)] [.int .i64 x1, .int .i64 1, .int .i64 x2, .int .i64 (-1)]) := Lib.hid (Els.cons (cs := [.int .i64 x1, .int .i64 1]) rfl (Els.one (cs := [.int .i64 x2, .int .i64 (-1)]) rfl))
      clear hx hO hlk hlke
      go_wp2_with (at_builtin; go_loud (refine wpList_push rfl (.tmp 17) (.tmp 24) 125 rfl evE Tryz.underlying125 w.heap.size (.slice ao lk.length co) lk rfl HO1.out [(x1, 1), (x2, -1)] #[.int .i64 x1, .int .i64 1, .int .i64 x2, .int .i64 (-1)] HIS.out 2 2 rfl (congrArg (fun k => Value.slice (some ⟨k, 0, none⟩) 2 2) (World.size_alloc _ _).symm) (by decide) (by have := HLK.out; unfold maxLen; omega) (by have := HLK.out; show _ * 16 ≤ _; omega) HB1.out.size ?_); intro g cap w5 hP hPa)
      go_roundw
      case rel => exact ⟨k + 1, by omega, by go_num, by rw [HT.out]; exact hP.own' (by simp), Lib.hid (HB1.out.trans hP.below)⟩
      case measure => simp [RowKit.intOf]; omega
    · have hkk : ps.take k = ps := List.take_of_length_le (by rw [← HN.out]; omega)
      rw [hkk] at hO
      have hlen : (evsOf ps).length = 2 * n := by rw [evs_length, ← HN.out]
      have HSR := Lib.hid (sortEvs_any _ _ w.heap.size wo hO (by omega))
      obtain ⟨ae, ce, rfl⟩ := hO.shape
      rw [hlen] at HSR ⊢
      have HLEN := Lib.hid hlen
      clear hO hkk hlen
      go_wp2_with fail
      refine HSR.out.mono ?_
      rintro _ w2 ⟨rfl, es, hp, hs, hE, _, hb2⟩
      have HEV : Hid (EvOf ps es) := Lib.hid ⟨HVAL.out, hp, hs⟩
      have hel : es.length = 2 * n := by rw [hp.length_eq]; exact HLEN.out
      have HEL := Lib.hid hel
      have HB2 := Lib.hid (HB.out.trans hb2)
      have HE := Lib.hid hE
      clear hp hs hE hb2 hel HSR
      go_wp2_with fail
      go_loopw [8, 6, 7] (fun s8 s6 s7 wr => ∃ (k : Nat) (X : Int) (ol : List Int) (M : List (Int × Int)), k ≤ 2 * n ∧ s8 = .int .i64 k ∧ Hid (LvS ps es k X ol M) ∧ Own intE wr w.heap.size s6 ol ∧ Own perE wr w.heap.size s7 M ∧ Own evE wr w.heap.size (.slice ae (2 * n) ce) es ∧ Apart (.slice ae (2 * n) ce) s6 ∧ Apart (.slice ae (2 * n) ce) s7 ∧ Apart s6 s7 ∧ Hid (Below w.heap.size w wr)) (fun i _ _ _ => 2 * n - (RowKit.intOf i).toNat)
      case atStart => exact ⟨0, -1, [], [], Nat.zero_le _, rfl, Lib.hid (LvS.start HEV.out), Own.nil _ _ _, Own.nil _ _ _, HE.out, (apart_none _).symm, (apart_none _).symm, apart_none _, HB2⟩
      case round =>
        obtain ⟨k, X, ol, M, hk, rfl, HS, hO6, hO7, hOE, hA6, hA7, hA67, HB3⟩ := hrel
        obtain ⟨wo, rfl⟩ : ∃ wo : World, wo = wr := ⟨_, rfl⟩
        by_cases hlt : k < 2 * n
        · obtain ⟨x, hx⟩ := lget_some es k (by rw [HEL.out]; exact hlt)
          obtain ⟨ge, rfl⟩ : ∃ ge, ae = some ⟨ge, 0, none⟩ := by
            obtain ⟨g, c', e⟩ := Own.shape_lt hOE (by rw [HEL.out]; omega)
            injection e with h1
            exact ⟨_, h1⟩
          obtain ⟨p0, p1⟩ := evs_at hOE hx
          obtain ⟨a6, c6, rfl⟩ := hO6.shape
          obtain ⟨a7, c7, rfl⟩ := hO7.shape
          have HX := Lib.hid hx
          have HOE := Lib.hid hOE
          have HO6 := Lib.hid hO6
          have HO7 := Lib.hid hO7
          have HA6 := Lib.hid hA6
          have HA7 := Lib.hid hA7
          have HA67 := Lib.hid hA67
          have HD0 : Hid (Value.int .i64 (ol.length : Int) = .int .i64 (sumE (es.take k))) := Lib.hid (by rw [HS.out.depth])
          obtain ⟨A, D⟩ := x
          dsimp only at p0 p1
          clear hx hOE hO6 hO7 hA6 hA7 hA67
          go_wp2_with fail
          go_loop [8, 10] (fun s8 s10 => ∃ j : Nat, k ≤ j ∧ j ≤ 2 * n ∧ s8 = .int .i64 j ∧ s10 = .int .i64 (sumE (es.take j)) ∧ Hid (LvG ps es k j A)) (fun s8 _ => 2 * n - (RowKit.intOf s8).toNat)
          case atStart => exact ⟨k, Nat.le_refl _, hk, rfl, HD0.out, Lib.hid (LvG.start _ _ _ _)⟩
          case round =>
            obtain ⟨j, hkj, hj, rfl, rfl, HG⟩ := hrel
            by_cases hc : ∃ y, es[j]? = some y ∧ y.1 = A
            · obtain ⟨⟨y1, y2⟩, hy, hyA⟩ := hc
              dsimp only at hyA
              subst hyA
              have hjl : j < 2 * n := by rw [← HEL.out]; exact (List.getElem?_eq_some_iff.1 hy).1
              obtain ⟨q0, q1⟩ := evs_at HOE.out hy
              dsimp only at q0 q1
              have hb := sumE_take HEV.out j
              rw [HEL.out] at hb
              have hy2 := (HEV.out.range _ (List.mem_of_getElem? hy)).2.2
              dsimp only at hy2
              have HSM := Lib.hid (sumE_step hy)
              have HG2 := Lib.hid (HG.out.more hy rfl)
              obtain ⟨s, hs⟩ : ∃ s, s = sumE (es.take j) := ⟨_, rfl⟩
              rw [← hs] at hb HSM ⊢
              have hyy : (y1 == y1) = true := by simp
              have hb1 : -200000 ≤ s := by omega
              have hb2 : s ≤ 200000 := by omega
              have hb3 : -1 ≤ y2 := by omega
              have hb4 : y2 ≤ 1 := by omega
              clear hy hs hb hy2
              go_wp2_with fail
              go_round
              case rel => exact ⟨j + 1, by omega, by omega, by go_num, by rw [HSM.out], HG2⟩
              case measure => simp [RowKit.intOf]; omega
            · have HNE : Hid (∀ y, es[j]? = some y → y.1 ≠ A) := Lib.hid (fun y hy e => hc ⟨y, hy, e⟩)
              clear hc
              obtain ⟨h1, h2, h3, h4, h5, h6, h7, h8, h9, h10, h11⟩ := HS.out.group HEV.out HG.out HX.out rfl (by rw [HEL.out]; exact hj) HNE.out
              obtain ⟨d, hd⟩ : ∃ d, d = cntP ps A := ⟨_, rfl⟩
              rw [← hd] at h4 h7 h8
              rw [h4]
              have HI := Lib.hid h1
              have HLO := Lib.hid h2
              have HHI := Lib.hid h3
              have HSUM := Lib.hid h4
              have HOLD := Lib.hid h5
              have HNEW := Lib.hid h6
              clear h1 h2 h3 h4 h5 h6 hd
              rcases Nat.lt_or_ge j (2 * n) with hjl | hjl
              all_goals first
                | (have hjl2 : j < es.length := Nat.lt_of_lt_of_eq hjl HEL.out.symm
                   obtain ⟨⟨y1, y2⟩, hy⟩ := lget_some es j hjl2
                   obtain ⟨q0, q1⟩ := evs_at HOE.out hy
                   have hyA := HNE.out _ hy
                   dsimp only at q0 q1 hyA
                   have hyb : (y1 == A) = false := by simpa using hyA
                   clear hy hyA hjl2
                   go_wp2_with fail)
                | go_wp2_with fail
              all_goals (
                go_loopw [6, 7] (fun s6 s7 wr => ∃ (o2 : List Int) (M2 : List (Int × Int)), Own intE wr w.heap.size s6 o2 ∧ Own perE wr w.heap.size s7 M2 ∧ Own evE wr w.heap.size (.slice (some ⟨ge, 0, none⟩) (2 * n) ce) es ∧ Hid (Apart (.slice (some ⟨ge, 0, none⟩) (2 * n) ce) s6) ∧ Hid (Apart (.slice (some ⟨ge, 0, none⟩) (2 * n) ce) s7) ∧ Hid (Apart s6 s7) ∧ Hid (LvI (cntP ps) A o2 M2) ∧ Hid (∀ o ∈ o2, o < A) ∧ Hid (o2.length < d → ∀ p ∈ M2, p.2 < A) ∧ 2 * M2.length + d ≤ j ∧ 2 * M2.length + 2 * o2.length ≤ j + d ∧ Hid (Below w.heap.size w wr)) (fun s6 _ _ => slLen s6)
                case atStart => exact ⟨ol, M, HO6.out, HO7.out, HOE.out, HA6, HA7, HA67, HI, HLO, Lib.hid (fun _ => HHI.out), by omega, by omega, HB3⟩
                case round =>
                  obtain ⟨o2, M2, hO6, hO7, hOE, HA6, HA7, HA67, HI, HLO, HHI, hz1, hz2, HB4⟩ := hrel
                  obtain ⟨wx, rfl⟩ : ∃ wx : World, wx = wr := ⟨_, rfl⟩
                  by_cases hgt : d < o2.length
                  · obtain ⟨q, hq⟩ : ∃ q, o2.length = q + 1 := ⟨o2.length - 1, by omega⟩
                    obtain ⟨o, ho⟩ := lget_some o2 q (by omega)
                    have ho2 : o2 = o2.take q ++ [o] := by rw [← take_get ho, List.take_of_length_le (by omega)]
                    obtain ⟨g6, c6, rfl⟩ := Own.shape_lt hO6 (by omega)
                    obtain ⟨a7, c7, rfl⟩ := hO7.shape
                    obtain ⟨b, of, eb, p6⟩ := ints_at' hO6.sl ho
                    cases eb
                    rw [Nat.zero_add] at p6
                    have HOX : Hid (o < A) := Lib.hid (HLO.out o (List.mem_of_getElem? ho))
                    have HI2 : Hid (LvI (cntP ps) A (o2.take q) (M2 ++ [(o, A)])) := Lib.hid (LvI.pop (by rw [← ho2]; exact HI.out) HOX.out h10)
                    have HLO2 : Hid (∀ o ∈ o2.take q, o < A) := Lib.hid (fun z hz => HLO.out z (List.mem_of_mem_take hz))
                    have htl : (o2.take q).length = q := by rw [List.length_take]; omega
                    have HTL := Lib.hid htl
                    rw [hq] at hO6 HA6 HA67 hgt hz2 ⊢
                    have HQ := Lib.hid hq
                    have HO6 := Lib.hid hO6
                    have HO7 := Lib.hid hO7
                    have HOE := Lib.hid hOE
                    have hcap : q + 1 ≤ c6 := Sl.cap (HO6.out).sl
                    clear ho ho2 htl hO6 hO7 hOE hq HI HLO HHI
                    go_wp2_with (at_builtin; refine wpList_push rfl (.tmp 66) (.tmp 75) 98 rfl perE Tryz.underlying98 w.heap.size (.slice a7 M2.length c7) M2 rfl HO7.out [(o, A)] #[.int .i64 o, .int .i64 A] (Els.one rfl) 1 1 rfl rfl (by decide) (by unfold maxLen; omega) (by show _ * 16 ≤ _; omega) HB4.out.size ?_; intro g cap w5 hP hPa)
                    go_roundw
                    case rel => exact ⟨o2.take q, M2 ++ [(o, A)], (hP.keep intE_flat HA67.out.symm HO6.out).shrink HQ.out (Nat.le_succ _), hP.own' (by simp), hP.keep evE_flat HA7.out.symm HOE.out, Lib.hid (fun z hz e => HA6.out z hz e), Lib.hid ((hP.apart HA7.out.symm (fun z hz => (HOE.out.lt z hz).2)).symm), Lib.hid ((hP.apart HA67.out.symm (fun z hz => (HO6.out.lt z hz).2)).symm), HI2, HLO2, Lib.hid (fun h => absurd h (by rw [HTL.out]; omega)), by simp; omega, by rw [HTL.out]; simp; omega, Lib.hid (HB4.out.trans hP.below)⟩
                    case measure => simp [slLen]
                  · obtain ⟨a7, c7, rfl⟩ := hO7.shape
                    obtain ⟨a6, c6, rfl⟩ := hO6.shape
                    have HO6 := Lib.hid hO6
                    have HO7 := Lib.hid hO7
                    have HOE := Lib.hid hOE
                    clear hO6 hO7 hOE HLO
                    go_wp2_with fail
                    go_loopw [6] (fun s6 wr => ∃ o3 : List Int, Own intE wr w.heap.size s6 o3 ∧ Own perE wr w.heap.size (.slice a7 M2.length c7) M2 ∧ Own evE wr w.heap.size (.slice (some ⟨ge, 0, none⟩) (2 * n) ce) es ∧ Hid (Apart (.slice (some ⟨ge, 0, none⟩) (2 * n) ce) s6) ∧ Hid (Apart s6 (.slice a7 M2.length c7)) ∧ Hid (LvI (cntP ps) A o3 M2) ∧ Hid (o3.length < d → ∀ p ∈ M2, p.2 < A) ∧ o3.length ≤ d ∧ Hid (Below w.heap.size w wr)) (fun s6 _ => d - slLen s6)
                    case atStart => exact ⟨o2, HO6.out, HO7.out, HOE.out, HA6, HA67, HI, HHI, by omega, HB4⟩
                    case round =>
                      obtain ⟨o3, hO6, hO7, hOE, HA6, HA67, HI, HHI, hz3, HB5⟩ := hrel
                      obtain ⟨wy, rfl⟩ : ∃ wy : World, wy = wr := ⟨_, rfl⟩
                      obtain ⟨a6, c6, rfl⟩ := hO6.shape
                      have HO6 := Lib.hid hO6
                      have HO7 := Lib.hid hO7
                      have HOE := Lib.hid hOE
                      clear hO6 hO7 hOE
                      by_cases hlt3 : o3.length < d
                      · have HHI3 := Lib.hid (HHI.out hlt3)
                        have HI3 := Lib.hid (HI.out.push h9 HHI3.out)
                        go_wp2_with (at_builtin; refine wpList_push rfl (.tmp 86) (.tmp 88) 32 rfl intE Tryz.underlying32 w.heap.size (.slice a6 o3.length c6) o3 rfl HO6.out [A] #[.int .i64 A] (Els.one rfl) 1 1 rfl rfl (by decide) (by unfold maxLen; omega) (by show _ * 8 ≤ _; omega) HB5.out.size ?_; intro g cap w5 hP hPa)
                        go_roundw
                        case rel => exact ⟨o3 ++ [A], hP.own' (by simp), hP.keep perE_flat HA67.out HO7.out, hP.keep evE_flat HA6.out.symm HOE.out, Lib.hid ((hP.apart HA6.out.symm (fun z hz => (HOE.out.lt z hz).2)).symm), Lib.hid (hP.apart HA67.out (fun z hz => (HO7.out.lt z hz).2)), HI3, Lib.hid (fun _ => HHI3.out), by simp; omega, Lib.hid (HB5.out.trans hP.below)⟩
                        case measure => simp [slLen]; omega
                      · have HNX : Hid (LvS ps es j A o3 M2) := Lib.hid (LvS.next HI.out HSUM.out HOLD.out HNEW.out (by omega) (by omega))
                        go_wp2_with fail
                        go_roundw
                        case rel => exact ⟨j, A, o3, M2, hj, rfl, HNX, HO6.out, HO7.out, HOE.out, HA6.out, by assumption, HA67.out, HB5⟩
                        case measure => simp [RowKit.intOf]; omega)
        · have hk2 : k = 2 * n := by omega
          subst hk2
          have HDN : Hid (LevOf ps M ∧ M.length ≤ ps.length) := Lib.hid (HS.out.done HEV.out HEL.out.symm)
          obtain ⟨a7, c7, rfl⟩ := hO7.shape
          have HO7 := Lib.hid hO7
          clear hO6 hO7 hOE hA6 hA7 hA67
          go_wp2_with fail
          go_ret
          exact ⟨M, HDN.out.1, by rw [HN.out]; exact HDN.out.2, _, rfl, HO7.out, HB3.out⟩
end Go.Proofs.YtpihlglblgbbeaaGreatDoor

namespace Go.Proofs.YtpihlglblgbbeaaGreatDoor
open Go.RowKit Go.Lib Go.Maps

theorem str_law : Keyed Tryz.prog 9 := string_keyed Tryz.underlying9
/-- An element is read as itself. -/
def rawElem (v : Value) : Option (DataW Value × List MemPlace) := some (.held v, [])
theorem skey {s : ByteArray} (h : s.size ≤ maxLen) : Go.keyOf Tryz.prog 9 (.string s) = some (.string s.data.toList) := by simp [Go.keyOf, mapKey, Tryz.underlying9, h]
theorem skey_inv {key : Value} {kl : Lit} (h : Go.keyOf Tryz.prog 9 key = some kl) : ∃ s : ByteArray, key = .string s ∧ kl = .string s.data.toList ∧ s.size ≤ maxLen := by
  cases key <;> simp [Go.keyOf, mapKey, Tryz.underlying9] at h
  exact ⟨_, rfl, h.2.symm, h.1⟩
theorem sAtKey_not_has {D : DataW Value} {k : Lit} (h : has D k = false) (hm : IsMap D) (z : DataW Value) : D.atKey k z = z := by
  obtain ⟨es, rfl⟩ := hm
  simp only [DataW.atKey]
  cases hf : es.find? (fun p => p.1.sameKey k) with
  | none => rfl
  | some p =>
    have h1 := List.find?_some hf
    have h2 := List.mem_of_find?_eq_some hf
    rw [has_eq] at h
    have := List.any_eq_false.1 h p h2
    exact absurd h1 (by simpa using this)
/-- What a map holds. -/
structure HoldsS (D : DataW Value) (f : List UInt8 → Option Value) : Prop where
  has : ∀ s, has D (.string s) = (f s).isSome
  at' : ∀ s v, f s = some v → ∀ zd, D.atKey (.string s) zd = .held v
/-- A map of the call's own from strings: what it holds. -/
def OwnSV (w : World) (b n : Nat) (f : List UInt8 → Option Value) : Prop :=
  ∃ D : DataW Value, w.ownsMap Tryz.prog 9 rawElem b n D ∧ HoldsS D f
theorem OwnSV.kept {w w' : World} {b n : Nat} {f : List UInt8 → Option Value} {G : Nat → Prop} (h : OwnSV w b n f) (hk : Kept G w w') (hb : ¬ G b) : OwnSV w' b n f := by
  obtain ⟨D, ⟨es, clock, h1, h2⟩, h3⟩ := h
  exact ⟨D, ⟨es, clock, (hk.2 b (Array.getElem?_eq_some_iff.1 h1).1 hb).trans h1, h2⟩, h3⟩
theorem OwnSV.below {w w' : World} {b n : Nat} {f : List UInt8 → Option Value} (h : OwnSV w b n f) (hb : Below w.heap.size w w') : OwnSV w' b n f := h.kept (G := fun _ => False) (.of_below hb) (fun h => h)
theorem OwnSV.lt {w : World} {b n : Nat} {f : List UInt8 → Option Value} (h : OwnSV w b n f) : b < w.heap.size := by obtain ⟨D, h1, _⟩ := h; exact h1.lt
theorem OwnSV.made (w : World) : OwnSV (w.alloc (.map #[] 0)) w.heap.size 0 (fun _ => none) := ⟨.map [], World.ownsMap_made w _ _ _, ⟨fun _ => rfl, fun _ _ h => by cases h⟩⟩
/-- The block of a map is no row's. -/
theorem OwnSV.no_row {P : Program} {α : Type} {E : El P α} {w : World} {b n B : Nat} {f : List UInt8 → Option Value} {v : Value} {l : List α} (h : OwnSV w b n f) (hO : Own E w B v l) : v.ownBlock ≠ some b := by
  intro e
  obtain ⟨D, ⟨es, clock, h1, _⟩, _⟩ := h
  obtain ⟨xs, ⟨_, h2⟩, _⟩ := hO
  rcases h2 with ⟨rfl, _⟩ | ⟨g, cap, cur, rfl, _, hh, _⟩
  · cases e
  · have e' : some g = some b := e
    cases e'
    rw [h1] at hh
    cases hh
section
variable {t e : TypeId} (ht : Tryz.prog.underlying t = some (.map 9 e))
include ht
/-- 'm[x]'. -/
theorem OwnSV.look {w : World} {b n : Nat} {f : List UInt8 → Option Value} {z : Value} (h : OwnSV w b n f) (hz : (zeroValue e).run Tryz.prog w = .ok z w) {s : ByteArray} (hs : s.size ≤ maxLen) :
    (Instr.lookup t (.map (some b)) (.string s) false).run Tryz.prog w = .ok ((f s.data.toList).getD z) w := by
  obtain ⟨D, h1, h2⟩ := h
  obtain ⟨v, ps, hrun, hv⟩ := h1.lookup str_law ht hz (zd := .held z) (zp := []) rfl (skey hs)
  rw [hrun]
  cases hf : f s.data.toList with
  | none =>
    rw [sAtKey_not_has (by rw [h2.has, hf]; rfl) h1.isMap] at hv
    cases hv
    rfl
  | some d =>
    rw [h2.at' _ d hf] at hv
    cases hv
    rfl
end
section
variable {t e : TypeId} (ht : Tryz.prog.underlying t = some (.map 9 e)) {ops : Array Oper} {rest : List Oper} {o : Oper} {a : Act} {Q : Exit → Act → World → Prop}
include ht
/-- 'm[x] = v'. -/
theorem OwnSV.put {w : World} {b n : Nat} {f : List UInt8 → Option Value} (h : OwnSV w b n f) (hn : n < maxLen) {s : ByteArray} (hs : s.size ≤ maxLen) (c : Value) :
    ∃ w', (Instr.mapUpdate t (.map (some b)) (.string s) c).run Tryz.prog w = .ok () w' ∧ OwnSV w' b (n + 1) (fun y => if y = s.data.toList then some c else f y) ∧ w.grownBy w' (some b) := by
  obtain ⟨D, h1, h2⟩ := h
  obtain ⟨w', hrun, r1, r2⟩ := h1.update str_law ht hn (skey hs) (val := c) rfl
  refine ⟨w', hrun, ?_, r2⟩
  have hm' := h1.isMap
  have hk : WideAt.IsKeyLit (.string s.data.toList) := str_law.key (skey hs)
  have hne : ∀ y, y ≠ s.data.toList → (Lit.string y) ≠ .string s.data.toList := fun y h e => h (by cases e; rfl)
  refine ⟨_, r1, ⟨fun y => ?_, fun y d hd zd => ?_⟩⟩
  · by_cases e : y = s.data.toList
    · subst e; rw [has_put_same hm' hk, if_pos rfl]; rfl
    · rw [has_put_other (hne y e), if_neg e, h2.has y]
  · by_cases e : y = s.data.toList
    · subst e; rw [if_pos rfl] at hd; cases hd; exact atKey_put_same hm' hk _ _
    · rw [if_neg e] at hd; rw [atKey_put_other (hne y e)]; exact h2.at' y d hd zd
theorem wpList_putSV (w : World) (hg : o.guard = none) (m x v : Operand) (hop : o.op = Op.mapUpdate t m x v) (b n : Nat) (f : List UInt8 → Option Value) (hm : a.eval m = .map (some b)) (hown : OwnSV w b n f) (hn : n < maxLen) (s : ByteArray) (c : Value)
    (hx : a.eval x = .string s) (hv : a.eval v = c) (hs : s.size ≤ maxLen)
    (hK : ∀ w', OwnSV w' b (n + 1) (fun y => if y = s.data.toList then some c else f y) → w.grownBy w' (some b) → wpList Tryz.prog ops Q rest (a.put o.dst undef) w') : wpList Tryz.prog ops Q (o :: rest) a w := by
  refine wpList_plain hg fun K' hK' => ?_
  obtain ⟨w', hrun, r1, r2⟩ := hown.put ht hn hs c
  unfold Oper.wp
  simp [execOp, hop, hm, hx, hv, hrun, Result.andThen]
  exact hK' _ _ (hK w' r1 r2)
end
/-- A range over such a map: what it holds, what is still to come. -/
def RngSV (w : World) (b r n : Nat) (f : List UInt8 → Option Value) (L : List UInt8 → Bool) (cnt : Nat) : Prop :=
  ∃ (D : DataW Value) (left : Lit → Bool), w.ranges Tryz.prog 9 rawElem b r n D left cnt ∧ HoldsS D f ∧ ∀ s, left (.string s) = L s
theorem RngSV.left_eq {w : World} {b r n : Nat} {f : List UInt8 → Option Value} {L : List UInt8 → Bool} {cnt : Nat} (h : RngSV w b r n f L cnt) : w.rangeLeft b r = cnt := by obtain ⟨D, left, h1, _⟩ := h; exact h1.left_eq
theorem RngSV.kept {w w' : World} {b r n : Nat} {f : List UInt8 → Option Value} {L : List UInt8 → Bool} {cnt : Nat} {G : Nat → Prop} (h : RngSV w b r n f L cnt) (hk : Kept G w w') (hb : ¬ G b) (hr : ¬ G r) : RngSV w' b r n f L cnt := by
  obtain ⟨D, left, ⟨es, clock, since, seen, c0, h1, F, hs, hD, h2, rest⟩, h3⟩ := h
  exact ⟨D, left, ⟨es, clock, since, seen, c0, (hk.2 b (Array.getElem?_eq_some_iff.1 h1).1 hb).trans h1, F, hs, hD, (hk.2 r (Array.getElem?_eq_some_iff.1 h2).1 hr).trans h2, rest⟩, h3⟩
theorem RngSV.below {w w' : World} {B b r n : Nat} {f : List UInt8 → Option Value} {L : List UInt8 → Bool} {cnt : Nat} (h : RngSV w b r n f L cnt) (hb : Below B w w') (h1 : b < B) (h2 : r < B) : RngSV w' b r n f L cnt :=
  h.kept (G := fun k => B ≤ k) ⟨hb.size, fun k _ hn => hb.block k (by omega)⟩ (by omega) (by omega)
section
variable {t e : TypeId} (ht : Tryz.prog.underlying t = some (.map 9 e)) {ops : Array Oper} {rest : List Oper} {o : Oper} {a : Act} {Q : Exit → Act → World → Prop}
include ht
/-- 'range m'. -/
theorem wpList_rangeSV (w : World) (hg : o.guard = none) (m : Operand) (hop : o.op = Op.range t m) (b n : Nat) (f : List UInt8 → Option Value) (hm : a.eval m = .map (some b)) (hown : OwnSV w b n f)
    (hK : ∀ w' cnt, RngSV w' b w.heap.size n f (fun s => (f s).isSome) cnt → w.grownBy w' none → w'.heap.size = w.heap.size + 1 → wpList Tryz.prog ops Q rest (a.put o.dst (.pointer (some ⟨w.heap.size, 0, none⟩))) w') :
    wpList Tryz.prog ops Q (o :: rest) a w := by
  obtain ⟨D, h1, h2⟩ := hown
  exact wpList_range_own w hg m t hop 9 e str_law ht rawElem b n D hm h1 fun w' h3 h4 h5 => hK w' _ ⟨D, _, h3, h2, h2.has⟩ h4 h5
end
section
variable {ops : Array Oper} {rest : List Oper} {o : Oper} {a : Act} {Q : Exit → Act → World → Prop}
/-- The step. -/
theorem wpList_nextSV (w : World) (hg : o.guard = none) (it : Operand) (hop : o.op = Op.next it false) (b r n : Nat) (f : List UInt8 → Option Value) (L : List UInt8 → Bool) (cnt : Nat) (hit : a.eval it = .pointer (some ⟨r, 0, none⟩)) (h : RngSV w b r n f L cnt)
    (hDone : (∀ s, L s = false) → wpList Tryz.prog ops Q rest (a.put o.dst (.tuple #[.bool false])) w)
    (hMore : ∀ (s : ByteArray) (v : Value) (w' : World) (cnt' : Nat), s.size ≤ maxLen → f s.data.toList = some v → L s.data.toList = true → RngSV w' b r n f (fun z => L z && !(z == s.data.toList)) cnt' → cnt' < cnt →
      w.grownBy w' (some r) → w'.heap.size = w.heap.size → (Instr.entry (.pointer (some ⟨r, 0, none⟩))).run Tryz.prog w' = .ok (.tuple #[.string s, v]) w' → wpList Tryz.prog ops Q rest (a.put o.dst (.tuple #[.bool true, .string s, v])) w') :
    wpList Tryz.prog ops Q (o :: rest) a w := by
  obtain ⟨D, left, h1, h2, h3⟩ := h
  refine wpList_next_ranges w hg it hop 9 str_law rawElem Value.string (fun v : Value => v) (fun key kl hkey => by obtain ⟨x, rfl, _⟩ := skey_inv hkey; exact ⟨x, rfl⟩) (fun v y _ => ⟨v, rfl⟩)
    b r n D left cnt hit h1 (fun _ hl => hDone fun s => by rw [← h3]; exact hl _) (fun s c kl y w' cnt' hkey hlk hv hat hrg hlt hgr hsz hen => ?_)
  obtain ⟨s', es, rfl, hss⟩ := skey_inv hkey
  cases es
  cases hv
  have hh := has_true_of_atKey hat
  rw [h2.has] at hh
  obtain ⟨v, hv⟩ := Option.isSome_iff_exists.1 hh
  have e1 := (hat .nil).symm.trans (h2.at' _ v hv .nil)
  cases e1
  refine hMore s c w' cnt' hss hv (by rw [← h3]; exact hlk) ⟨D, _, hrg, h2, fun z => ?_⟩ hlt hgr hsz hen
  dsimp only
  rw [h3]
  congr 1
end
end Go.Proofs.YtpihlglblgbbeaaGreatDoor

namespace Go.Proofs.YtpihlglblgbbeaaGreatDoor
open Go.Shelf
def sh_sortTups_ren : Go.Shelf.Ren := ⟨fun | 6 => 50 | 15 => 71 | 14 => 70 | 28 => 92 | 29 => 93 | 20 => 84 | 21 => 85 | 22 => 86 | 23 => 87 | 24 => 88 | 25 => 89 | 26 => 90 | 27 => 91 | 46 => 111 | 47 => 112 | 48 => 113 | 49 => 114 | 50 => 115 | 57 => 125 | n => n, fun | 22 => 45 | 24 => 65 | 25 => 90 | 3 => 3 | 39 => 133 | 0 => 0 | 53 => 154 | 55 => 156 | 4 => 4 | 46 => 148 | 45 => 147 | 50 => 78 | 5 => 5 | 9 => 9 | 66 => 171 | 70 => 175 | 76 => 183 | 77 => 184 | n => n, fun | n => n⟩
theorem sh_sortTups : Go.Proofs.SlLaysF0.n6 Tryz.prog sh_sortTups_ren := {
  mixed := by kernel_rfl
  f6 := ⟨Tryz.f50.name, by decide, Tryz.func50.trans (congrArg some (by kernel_rfl))⟩
  f14 := ⟨Tryz.f70.name, by decide, Tryz.func70.trans (congrArg some (by kernel_rfl))⟩
  f15 := Tryz.func71.trans (congrArg some (by kernel_rfl))
  f20 := ⟨Tryz.f84.name, by decide, Tryz.func84.trans (congrArg some (by kernel_rfl))⟩
  f21 := ⟨Tryz.f85.name, by decide, Tryz.func85.trans (congrArg some (by kernel_rfl))⟩
  f22 := ⟨Tryz.f86.name, by decide, Tryz.func86.trans (congrArg some (by kernel_rfl))⟩
  f23 := ⟨Tryz.f87.name, by decide, Tryz.func87.trans (congrArg some (by kernel_rfl))⟩
  f24 := ⟨Tryz.f88.name, by decide, Tryz.func88.trans (congrArg some (by kernel_rfl))⟩
  f25 := ⟨Tryz.f89.name, by decide, Tryz.func89.trans (congrArg some (by kernel_rfl))⟩
  f26 := ⟨Tryz.f90.name, by decide, Tryz.func90.trans (congrArg some (by kernel_rfl))⟩
  f27 := ⟨Tryz.f91.name, by decide, Tryz.func91.trans (congrArg some (by kernel_rfl))⟩
  f28 := Tryz.func92.trans (congrArg some (by kernel_rfl))
  f29 := Tryz.func93.trans (congrArg some (by kernel_rfl))
  f46 := ⟨Tryz.f111.name, by decide, Tryz.func111.trans (congrArg some (by kernel_rfl))⟩
  f47 := Tryz.func112.trans (congrArg some (by kernel_rfl))
  f48 := Tryz.func113.trans (congrArg some (by kernel_rfl))
  f49 := ⟨Tryz.f114.name, by decide, Tryz.func114.trans (congrArg some (by kernel_rfl))⟩
  f50 := ⟨Tryz.f115.name, by decide, Tryz.func115.trans (congrArg some (by kernel_rfl))⟩
  f57 := ⟨Tryz.f125.name, by decide, Tryz.func125.trans (congrArg some (by kernel_rfl))⟩
  t0 := Tryz.underlying0
  a0 := Tryz.isAgg0
  z0 := Tryz.sizeOf0
  v0 := Tryz.zeroValue0
  t3 := Tryz.underlying3
  a3 := Tryz.isAgg3
  z3 := Tryz.sizeOf3
  v3 := Tryz.zeroValue3
  t4 := Tryz.underlying4
  a4 := Tryz.isAgg4
  z4 := Tryz.sizeOf4
  v4 := Tryz.zeroValue4
  t5 := Tryz.underlying5
  a5 := Tryz.isAgg5
  z5 := Tryz.sizeOf5
  v5 := Tryz.zeroValue5
  t9 := Tryz.underlying9
  a9 := Tryz.isAgg9
  z9 := Tryz.sizeOf9
  v9 := Tryz.zeroValue9
  t22 := Tryz.underlying45
  a22 := Tryz.isAgg45
  z22 := Tryz.sizeOf45
  v22 := Tryz.zeroValue45
  t25 := Tryz.underlying90
  a25 := Tryz.isAgg90
  z25 := Tryz.sizeOf90
  v25 := Tryz.zeroValue90
  t39 := Tryz.underlying133
  a39 := Tryz.isAgg133
  z39 := Tryz.sizeOf133
  v39 := Tryz.zeroValue133
  t45 := Tryz.underlying147
  a45 := Tryz.isAgg147
  z45 := Tryz.sizeOf147
  v45 := Tryz.zeroValue147
  t46 := Tryz.underlying148
  a46 := Tryz.isAgg148
  z46 := Tryz.sizeOf148
  v46 := Tryz.zeroValue148
  t50 := Tryz.underlying78
  a50 := Tryz.isAgg78
  z50 := Tryz.sizeOf78
  v50 := Tryz.zeroValue78
  t53 := Tryz.underlying154
  a53 := Tryz.isAgg154
  z53 := Tryz.sizeOf154
  v53 := Tryz.zeroValue154
  t55 := Tryz.underlying156
  a55 := Tryz.isAgg156
  z55 := Tryz.sizeOf156
  v55 := Tryz.zeroValue156
  t66 := Tryz.underlying171
  a66 := Tryz.isAgg171
  z66 := Tryz.sizeOf171
  v66 := Tryz.zeroValue171
  t70 := Tryz.underlying175
  a70 := Tryz.isAgg175
  z70 := Tryz.sizeOf175
  v70 := Tryz.zeroValue175
  t76 := Tryz.underlying183
  a76 := Tryz.isAgg183
  z76 := Tryz.sizeOf183
  v76 := Tryz.zeroValue183
  t77 := Tryz.underlying184
  a77 := Tryz.isAgg184
  z77 := Tryz.sizeOf184
  v77 := Tryz.zeroValue184 }
end Go.Proofs.YtpihlglblgbbeaaGreatDoor

namespace Go.Proofs.YtpihlglblgbbeaaGreatDoor
open Go.RowKit Go.Lib Go.Shelf Go.Sort

theorem row_g (v u : Value) (lo hi : Int) (w : World) (a b : Option Addr) (n c m d : Nat) (hv : v = .slice a n c) (hu : u = .slice b m d) :
    Calls Tryz.prog 47 #[.agg #[v, .int .i64 lo, .int .i64 hi, u]] w fun e w' => e = .returned (.agg #[v, u]) ∧ Grew w w' := by
  subst hv hu
  go_enter Tryz.func47, Tryz.ntmps47
  go_wp2
  refine bodyPost_ret (v := .agg #[.slice a n c, .slice b m d]) ?_ rfl ⟨rfl, grew_alloc2 w _ _⟩
  simp [results, Tryz.results47, go_sem]
set_option maxHeartbeats 8000000 in
set_option maxRecDepth 100000 in
theorem tupCmp_g (a b : Tup) (v u v2 u2 : Value) (w : World) (hv : Sl valE w free v a.vals) (hu : Sl intE w free u a.lin) (hv2 : Sl valE w free v2 b.vals) (hu2 : Sl intE w free u2 b.lin) :
    Calls Tryz.prog 44 #[.agg #[v, .int .i64 a.lo, .int .i64 a.hi, u], .agg #[v2, .int .i64 b.lo, .int .i64 b.hi, u2]] w fun e w' => e = .returned (.int .i64 (cmpTup a b)) ∧ Grew w w' := by
  obtain ⟨r1, hr1⟩ : ∃ r, r = cmpRow a.row b.row := ⟨_, rfl⟩
  obtain ⟨fc, hfc⟩ : ∃ fc, fc = cmpI := ⟨_, rfl⟩
  have CB : ∀ W, Grew w W → Hid (Calls Tryz.prog 62 #[.agg #[v, u], .agg #[v2, u2]] W fun e w' => e = .returned (.int .i64 r1) ∧ Grew W w') := fun W h => hr1 ▸ bagCmp_g a.row b.row v u v2 u2 W (hv.below h.below) (hu.below h.below) (hv2.below h.below) (hu2.below h.below)
  have CC : ∀ x y W, Hid (Calls Tryz.prog 55 #[.int .i64 x, .int .i64 y] W fun e w' => e = .returned (.int .i64 (fc x y)) ∧ W = w') := fun x y W => hfc ▸ cmpInt_any x y W
  have HR : Hid (orL [r1, fc a.lo b.lo, fc a.hi b.hi] = cmpTup a b) := by
    show _ = _
    rw [hr1, hfc]
    unfold cmpTup or2 orL orL orL orL
    split <;> (try split) <;> simp_all
  have COR : ∀ W : World, Hid (Calls Tryz.prog 61 #[.slice (some ⟨W.heap.size, 0, none⟩) 3 3] (W.alloc (.cells #[.int .i64 r1, .int .i64 (fc a.lo b.lo), .int .i64 (fc a.hi b.hi)] 3)).drew fun e w' => e = .returned (.int .i64 (cmpTup a b)) ∧ (W.alloc (.cells #[.int .i64 r1, .int .i64 (fc a.lo b.lo), .int .i64 (fc a.hi b.hi)] 3)).drew = w') := fun W => by
    have := cmpOr_any (.slice (some ⟨W.heap.size, 0, none⟩) 3 3) [r1, fc a.lo b.lo, fc a.hi b.hi] (W.alloc (.cells #[.int .i64 r1, .int .i64 (fc a.lo b.lo), .int .i64 (fc a.hi b.hi)] 3)).drew (Sl.of_block (n := 3) (m := 3) (show (W.alloc (.cells #[.int .i64 r1, .int .i64 (fc a.lo b.lo), .int .i64 (fc a.hi b.hi)] 3)).drew.heap[W.heap.size]? = some (.cells #[.int .i64 r1, .int .i64 (fc a.lo b.lo), .int .i64 (fc a.hi b.hi)] 3) from World.alloc_heap_new W _) (Els.cons (cs := [.int .i64 r1]) rfl (Els.cons (cs := [.int .i64 (fc a.lo b.lo)]) rfl (Els.one (cs := [.int .i64 (fc a.hi b.hi)]) rfl))) id rfl (by simp) (by simp))
    rw [HR.out] at this
    exact Lib.hid this
  have CORn : ∀ W : World, Hid (Calls Tryz.prog 61 #[.slice (some ⟨W.heap.size, 0, none⟩) 3 3] (W.alloc (.cells #[.int .i64 r1, .int .i64 (fc a.lo b.lo), .int .i64 (fc a.hi b.hi)] 3)) fun e w' => e = .returned (.int .i64 (cmpTup a b)) ∧ (W.alloc (.cells #[.int .i64 r1, .int .i64 (fc a.lo b.lo), .int .i64 (fc a.hi b.hi)] 3)) = w') := fun W => by
    have := cmpOr_any (.slice (some ⟨W.heap.size, 0, none⟩) 3 3) [r1, fc a.lo b.lo, fc a.hi b.hi] (W.alloc (.cells #[.int .i64 r1, .int .i64 (fc a.lo b.lo), .int .i64 (fc a.hi b.hi)] 3)) (Sl.of_block (n := 3) (m := 3) (World.alloc_heap_new W _) (Els.cons (cs := [.int .i64 r1]) rfl (Els.cons (cs := [.int .i64 (fc a.lo b.lo)]) rfl (Els.one (cs := [.int .i64 (fc a.hi b.hi)]) rfl))) id rfl (by simp) (by simp))
    rw [HR.out] at this
    exact Lib.hid this
  obtain ⟨a1, c1, rfl⟩ := hv.shape
  obtain ⟨a2, c2, rfl⟩ := hu.shape
  obtain ⟨a3, c3, rfl⟩ := hv2.shape
  obtain ⟨a4, c4, rfl⟩ := hu2.shape
  generalize a.vals.length = n1 at CB ⊢
  generalize a.lin.length = n2 at CB ⊢
  generalize b.vals.length = n3 at CB ⊢
  generalize b.lin.length = n4 at CB ⊢
  obtain ⟨z, hz⟩ : ∃ z, z = cmpTup a b := ⟨_, rfl⟩
  rw [← hz] at COR CORn ⊢
  generalize a.lo = l1 at COR CORn ⊢
  generalize a.hi = h1 at COR CORn ⊢
  generalize b.lo = l2 at COR CORn ⊢
  generalize b.hi = h2 at COR CORn ⊢
  clear hv hu hv2 hu2 hr1 HR hz hfc
  go_enter Tryz.func44, Tryz.ntmps44
  go_wp2_with fail
  have hB0 := grew_alloc2 w (.cells #[.slice a1 n1 c1, .int .i64 l1, .int .i64 h1, .slice a2 n2 c2] 65) (.cells #[.slice a3 n3 c3, .int .i64 l2, .int .i64 h2, .slice a4 n4 c4] 65)
  obtain ⟨⟨d0, d1, d2, d3⟩, _⟩ := box_four (heap_alloc_old' w (.cells #[.slice a1 n1 c1, .int .i64 l1, .int .i64 h1, .slice a2 n2 c2] 65) (.cells #[.slice a3 n3 c3, .int .i64 l2, .int .i64 h2, .slice a4 n4 c4] 65))
  obtain ⟨⟨e0, e1, e2, e3⟩, _⟩ := box_four (heap_alloc_new' w (.cells #[.slice a1 n1 c1, .int .i64 l1, .int .i64 h1, .slice a2 n2 c2] 65) (.cells #[.slice a3 n3 c3, .int .i64 l2, .int .i64 h2, .slice a4 n4 c4] 65))
  go_region_held3 (fun W => Grew w W ∧ W.cell? ⟨w.heap.size, 0, none⟩ = some (.slice a1 n1 c1) ∧ W.cell? ⟨w.heap.size, 1, none⟩ = some (.int .i64 l1) ∧ W.cell? ⟨w.heap.size, 2, none⟩ = some (.int .i64 h1) ∧ W.cell? ⟨w.heap.size, 3, none⟩ = some (.slice a2 n2 c2) ∧ W.cell? ⟨w.heap.size + 1, 0, none⟩ = some (.slice a3 n3 c3) ∧ W.cell? ⟨w.heap.size + 1, 1, none⟩ = some (.int .i64 l2) ∧ W.cell? ⟨w.heap.size + 1, 2, none⟩ = some (.int .i64 h2) ∧ W.cell? ⟨w.heap.size + 1, 3, none⟩ = some (.slice a4 n4 c4))
    ((go_split_ands; refine ⟨?_, ?_, ?_, ?_, ?_, ?_, ?_, ?_, ?_⟩ <;> first | (with_reducible assumption) | with_reducible exact Grew.drew (by assumption) | with_reducible exact cell_drew (by assumption) | with_reducible exact grew_keep (by assumption) (by assumption) | with_reducible exact cell_grew (by assumption) (by assumption) | with_reducible exact grew_alloc_keep (by assumption) | with_reducible exact cell_alloc (by assumption) | with_reducible exact grew_alloc_drew (by assumption) | with_reducible exact cell_alloc_drew (by assumption)))
    (first
      | (go_at_call 47; (with_reducible refine (row_g _ _ _ _ _ _ _ _ _ _ _ rfl rfl).mono ?_); rintro e' wR ⟨rfl, hgR⟩)
      | (go_at_call 62; go_split_ands; refine (CB _ (by first | assumption | exact Grew.drew (by assumption))).out.mono ?_; rintro e' wB ⟨rfl, hgB⟩)
      | (go_at_call 55; (with_reducible refine (CC _ _ _).out.mono ?_); rintro e' wI ⟨rfl, rfl⟩)
      | (go_at_call 61; first | (with_reducible refine (COR _).out.mono ?_) | (with_reducible refine (CORn _).out.mono ?_); rintro e' wO ⟨rfl, rfl⟩))
  all_goals go_split_ands
  all_goals go_wp2_with fail
  all_goals go_ret
  all_goals exact ⟨rfl, by assumption⟩
theorem swo_tup {β : Type} (f : β → Tup) : SWO (ltOf fun x y : β => cmpTup (f x) (f y)) where
  irrefl x := by
    show decide (cmpTup (f x) (f x) < 0) = false
    rw [cmpTup_zero.2 rfl]
    rfl
  trans x y z h1 h2 := by
    have h := sgn_tup (f x) (f y) (f z)
    have h1' : decide (cmpTup (f x) (f y) < 0) = true := h1
    have h2' : decide (cmpTup (f y) (f z) < 0) = true := h2
    show decide (cmpTup (f x) (f z) < 0) = true
    unfold Sgn3 at h
    rw [decide_eq_true_eq] at h1' h2' ⊢
    omega
  ntrans x y z h1 h2 := by
    have h := sgn_tup (f z) (f y) (f x)
    rw [cmpTup_swap (f y) (f z), cmpTup_swap (f x) (f y), cmpTup_swap (f x) (f z)] at h
    have h1' : decide (cmpTup (f x) (f y) < 0) = false := h1
    have h2' : decide (cmpTup (f y) (f z) < 0) = false := h2
    show decide (cmpTup (f x) (f z) < 0) = false
    unfold Sgn3 at h
    rw [decide_eq_false_iff_not] at h1' h2' ⊢
    omega
theorem sortTups_any (v : Value) (l : List Tup) (B : Nat) (w : World) (hO : Own tupE w B v l) (hl : l.length ≤ 1000000) :
    Calls Tryz.prog 50 #[v, .func (.func 44) #[] #[]] w fun e w' => e = .returned (.tuple #[]) ∧ ∃ l' : List Tup, l'.Perm l ∧ l'.Pairwise (fun x y => ¬ cmpTup y x < 0) ∧ Own tupE w' B v l' ∧ RowKit.Below B w w' := by
  rcases Nat.eq_zero_or_pos l.length with h0 | hpos
  · have hl0 : l = [] := List.eq_nil_of_length_eq_zero h0
    subst hl0
    obtain ⟨a, c, rfl⟩ := hO.shape
    refine (AnyF.slices_SortFunc_none sh_sortTups a c _ w).mono ?_
    rintro _ w' ⟨rfl, rfl⟩
    exact ⟨rfl, [], .refl _, .nil, hO, .refl _ _⟩
  · obtain ⟨g, c, rfl⟩ := Own.shape_lt hO hpos
    have hgl := (hO.lt g rfl).2
    refine (own_sorted cmpTup hO rfl hpos fun d hd hH hK => ?_).mono ?_
    · have eg : ∀ args w, (callFunc 44 args).run Tryz.prog w = .ok (.enter 44 args) w := enters_of Tryz.func44 (by kernel_rfl) rfl
      have hcmp : CmpLays Tryz.prog 44 #[] (Cel.cells (E := tupE) (w := w) (g := g)) 4 (fun x y => cmpTup x.val y.val) g 0 d.size w := fun m os dk hdk x y => by
        obtain ⟨v1, u1, e1, p1, q1⟩ := x.is
        obtain ⟨v2, u2, e2, p2, q2⟩ := y.is
        have hk := hK m os dk (hdk.trans hd)
        rw [e1, e2]
        exact tupCmp_g x.val y.val v1 u1 v2 u2 _ (p1.kept hk).free (q1.kept hk).free (p2.kept hk).free (q2.kept hk).free
      have := AnyQ.slices_SortFunc sh_sortTups 4 (fun w => Tryz.isAgg65 w) (fun w => Tryz.sizeOf65 w) (Cel.cells (E := tupE) (w := w) (g := g)) Cel.len Cel.one (fun x y => cmpTup x.val y.val) (swo_tup Cel.val) 44 #[] g 0 c d w eg hcmp hH hgl (by omega)
      have e : Value.slice (some ⟨g, 0, none⟩) d.size c = .slice (some ⟨g, 0, none⟩) l.length c := by rw [hd]
      rw [e] at this
      exact this
    · rintro _ w' ⟨rfl, l', hp, hs, hO', _, hb⟩
      exact ⟨rfl, l', hp, hs, hO', hb⟩
end Go.Proofs.YtpihlglblgbbeaaGreatDoor

namespace Go.Proofs.YtpihlglblgbbeaaGreatDoor
open Go.RowKit Go.Lib Go.Maps

theorem rowKey_len {r : GRow} (h : Keyable r) : (rowKeyL r).length ≤ 140737488355328 := by
  have h1 : In64 (r.vals.length : Int) := by have := h.nv; unfold In64; omega
  have h2 := itoa_le h1
  have h3 := linKey_length h.lin
  have h4 := h.key
  have h5 := h.nl
  unfold rowKeyL
  simp only [List.length_append, List.length_singleton]
  omega
theorem OwnSV.mono {w : World} {b n m : Nat} {f : List UInt8 → Option Value} (h : OwnSV w b n f) (hn : n ≤ m) : OwnSV w b m f := by
  obtain ⟨D, h1, h2⟩ := h; exact ⟨D, h1.mono hn, h2⟩
/-- The rows by their keys. -/
structure RowsIn (w0 : World) (l : List Tup) (f : List UInt8 → Option Value) : Prop where
  at' : ∀ s c, f s = some c → ∃ x ∈ l, pvalid x.lo x.hi = true ∧ keyT x = s ∧ ∃ v u, c = .agg #[v, u] ∧ Sl valE w0 free v x.vals ∧ Sl intE w0 free u x.lin
  dom : ∀ x ∈ l, pvalid x.lo x.hi = true → (f (keyT x)).isSome = true
theorem RowsIn.nil (w0 : World) : RowsIn w0 [] (fun _ => none) := ⟨(fun _ _ h => by cases h), (fun x hx => by simp at hx)⟩
theorem RowsIn.skip {w0 : World} {l : List Tup} {f : List UInt8 → Option Value} {x : Tup} (h : RowsIn w0 l f) (hx : pvalid x.lo x.hi = false) : RowsIn w0 (l ++ [x]) f := by
  refine ⟨fun s c hs => ?_, fun y hy hv => ?_⟩
  · obtain ⟨y, hy, r⟩ := h.at' s c hs
    exact ⟨y, by simp [hy], r⟩
  · rcases List.mem_append.1 hy with hy | hy
    · exact h.dom y hy hv
    · simp at hy; subst hy; rw [hx] at hv; cases hv
theorem RowsIn.put {w0 : World} {l : List Tup} {f : List UInt8 → Option Value} {x : Tup} {v u : Value} (h : RowsIn w0 l f) (hx : pvalid x.lo x.hi = true) (hv : Sl valE w0 free v x.vals) (hu : Sl intE w0 free u x.lin) :
    RowsIn w0 (l ++ [x]) (fun y => if y = keyT x then some (.agg #[v, u]) else f y) := by
  refine ⟨fun s c hs => ?_, fun y hy hyv => ?_⟩
  · split at hs
    · rename_i e
      cases hs
      exact ⟨x, by simp, hx, e.symm, v, u, rfl, hv, hu⟩
    · obtain ⟨y, hy, r⟩ := h.at' s c hs
      exact ⟨y, by simp [hy], r⟩
  · split
    · rfl
    · rename_i hne
      rcases List.mem_append.1 hy with hy | hy
      · exact h.dom y hy hyv
      · simp at hy; subst hy; exact absurd rfl hne
/-- The periods by their rows' keys: each a row of the call's own. -/
structure PersIn (w : World) (B : Nat) (l : List Tup) (f : List UInt8 → Option Value) : Prop where
  own : ∀ s v, f s = some v → Own perE w B v (perOf l s)
  none : ∀ s, f s = none → perOf l s = []
  apart : ∀ s s' v v', s ≠ s' → f s = some v → f s' = some v' → Apart v v'
theorem PersIn.nil (w : World) (B : Nat) : PersIn w B [] (fun _ => Option.none) := ⟨(fun _ _ h => by cases h), (fun _ _ => rfl), (fun _ _ _ _ _ h => by cases h)⟩
theorem PersIn.get {w : World} {B : Nat} {l : List Tup} {f : List UInt8 → Option Value} (h : PersIn w B l f) (s : List UInt8) : Own perE w B ((f s).getD (.slice Option.none 0 0)) (perOf l s) := by
  cases hf : f s with
  | none => rw [h.none s hf]; exact Own.nil _ _ _
  | some v => exact h.own s v hf
theorem PersIn.below {w w' : World} {B : Nat} {l : List Tup} {f : List UInt8 → Option Value} (h : PersIn w B l f) (hb : Below w.heap.size w w') : PersIn w' B l f :=
  ⟨fun s v hs => (h.own s v hs).below hb, h.none, h.apart⟩
theorem PersIn.kept {w w' : World} {B b n : Nat} {l : List Tup} {f g : List UInt8 → Option Value} (h : PersIn w B l f) (hm : OwnSV w b n g) (hg : w.grownBy w' (some b)) : PersIn w' B l f :=
  ⟨fun s v hs => (h.own s v hs).kept_flat perE_flat (.of_grown hg) fun _ hk e => hm.no_row (h.own s v hs) (hk.trans e), h.none, h.apart⟩
theorem PersIn.skip {w : World} {B : Nat} {l : List Tup} {f : List UInt8 → Option Value} {x : Tup} (h : PersIn w B l f) (hx : pvalid x.lo x.hi = false) : PersIn w B (l ++ [x]) f := by
  have e : ∀ s, perOf (l ++ [x]) s = perOf l s := fun s => by rw [perOf_snoc, if_neg (by simp [hx]), List.append_nil]
  exact ⟨fun s v hs => by rw [e]; exact h.own s v hs, fun s hs => by rw [e]; exact h.none s hs, h.apart⟩
theorem PersIn.get_apart {w : World} {B : Nat} {l : List Tup} {f : List UInt8 → Option Value} (h : PersIn w B l f) {s s' : List UInt8} {v : Value} (hne : s ≠ s') (hs : f s' = some v) : Apart ((f s).getD (.slice Option.none 0 0)) v := by
  cases hf : f s with
  | none => exact apart_none _
  | some u => exact h.apart s s' u v hne hf hs
theorem PersIn.put {w w' : World} {B g cap n : Nat} {l : List Tup} {f : List UInt8 → Option Value} {x : Tup} (h : PersIn w B l f) (hx : pvalid x.lo x.hi = true) (hp : Pushed perE B w w' ((f (keyT x)).getD (.slice Option.none 0 0)) (perOf l (keyT x) ++ [(x.lo, x.hi)]) g cap) (hn : (perOf l (keyT x)).length + 1 = n) :
    PersIn w' B (l ++ [x]) (fun y => if y = keyT x then some (.slice (some ⟨g, 0, Option.none⟩) n cap) else f y) := by
  have hlt : ∀ s v, f s = some v → ∀ k, v.ownBlock = some k → k < w.heap.size := fun s v hs k hk => ((h.own s v hs).lt k hk).2
  refine ⟨fun s v hs => ?_, fun s hs => ?_, fun s s' v v' hne hs hs' => ?_⟩
  · split at hs
    · rename_i e
      cases hs
      subst e
      rw [perOf_snoc, if_pos (by simp [hx])]
      exact hp.own' (by simp; omega)
    · rename_i e
      rw [perOf_snoc, if_neg (by simp [Ne.symm e]), List.append_nil]
      exact hp.keep perE_flat (h.get_apart (Ne.symm e) hs) (h.own s v hs)
  · split at hs
    · cases hs
    · rename_i e
      rw [perOf_snoc, if_neg (by simp [Ne.symm e]), List.append_nil]
      exact h.none s hs
  · split at hs
    · rename_i e
      cases hs
      split at hs'
      · rename_i e'; exact absurd (e.trans e'.symm) hne
      · rename_i e'
        exact hp.apart (h.get_apart (Ne.symm e') hs') (hlt s' v' hs')
    · rename_i e
      split at hs'
      · cases hs'
        exact (hp.apart (h.get_apart (Ne.symm e) hs) (hlt s v hs)).symm
      · exact h.apart s s' v v' hne hs hs'
theorem slPer_zero (w : World) : (zeroValue 98).run Tryz.prog w = .ok (.slice none 0 0) w := by kernel_rfl
set_option maxHeartbeats 8000000 in
set_option maxRecDepth 100000 in
theorem normalize_any (v : Value) (l : List Tup) (w : World) (hv : Tups w v l) (hl : l.length ≤ 100000) (hK : ∀ x ∈ l, Keyable x.row) (hT : Pow w) :
    Calls Tryz.prog 25 #[v] w fun e w' => ∃ T, IsNF l T ∧ T.length ≤ l.length ∧ RetOwn tupE w T e w' := by
  obtain ⟨a, c, rfl⟩ := hv.shape
  have HV := Lib.hid hv
  have HK := Lib.hid hK
  have HT := Lib.hid hT
  obtain ⟨n, hn⟩ : ∃ n, n = l.length := ⟨_, rfl⟩
  have HN := Lib.hid hn
  rw [← hn] at hl HV ⊢
  have hmm := @run_makeMap Tryz.prog
  have HM1 : Hid (OwnSV ((w.alloc (.map #[] 0)).alloc (.map #[] 0)) w.heap.size 0 (fun _ => none)) := Lib.hid ((OwnSV.made w).below (below_alloc _ _))
  have HM2 : Hid (OwnSV ((w.alloc (.map #[] 0)).alloc (.map #[] 0)) (w.heap.size + 1) 0 (fun _ => none)) := Lib.hid (by
    have := OwnSV.made (w.alloc (.map #[] 0))
    rw [World.size_alloc] at this
    exact this)
  clear hv hK hT hn
  go_enter Tryz.func25, Tryz.ntmps25
  go_wp2_with fail
  go_loopw [17] (fun i wr => ∃ (k : Nat) (fr fp : List UInt8 → Option Value), k ≤ n ∧ i = .int .i64 k ∧ OwnSV wr w.heap.size k fr ∧ OwnSV wr (w.heap.size + 1) k fp ∧ Hid (RowsIn w (l.take k) fr) ∧ Hid (PersIn wr w.heap.size (l.take k) fp) ∧ Hid (Below w.heap.size w wr)) (fun i _ => n - (RowKit.intOf i).toNat)
  case atStart => exact ⟨0, _, _, Nat.zero_le _, rfl, HM1.out, HM2.out, Lib.hid (RowsIn.nil _), Lib.hid (PersIn.nil _ _), Lib.hid (below_alloc_two _ _ _)⟩
  case round =>
    obtain ⟨k, fr, fp, hk, rfl, hR, hP, HRI, HPI, HB⟩ := hrel
    obtain ⟨wo, rfl⟩ : ∃ wo : World, wo = wr := ⟨_, rfl⟩
    by_cases hlt : k < n
    · obtain ⟨x, hx⟩ := lget_some l k (by rw [← HN.out]; exact hlt)
      obtain ⟨b, o, a1, n1, e1, m1, rfl, hvv, hll, p0, p1, p2, p3⟩ := tups_at HV.out hx
      replace p0 := cell_keep HB.out p0
      replace p1 := cell_keep HB.out p1
      replace p2 := cell_keep HB.out p2
      replace p3 := cell_keep HB.out p3
      have HTK : Hid (l.take (k + 1) = l.take k ++ [x]) := Lib.hid (take_get hx)
      have hky := HK.out x (List.mem_of_getElem? hx)
      have hlk : (l.take k).length ≤ 100000 := by rw [List.length_take]; omega
      obtain ⟨lk, hlke⟩ : ∃ lk, lk = l.take k := ⟨_, rfl⟩
      rw [← hlke] at HTK hlk HRI HPI
      obtain ⟨q, hq⟩ : ∃ q, q = pvalid x.lo x.hi := ⟨_, rfl⟩
      have HQ := Lib.hid hq
      have HPV := fun W => Lib.hid (pvalid_any x.lo x.hi W)
      rw [← hq] at HPV
      have HKY := Lib.hid hky
      have HVV := Lib.hid hvv
      have HLL := Lib.hid hll
      have HLK := Lib.hid hlk
      obtain ⟨xv, xlo, xhi, xl⟩ := x
      dsimp only at p0 p1 p2 p3 HVV HLL HPV HQ
      have hg := World.alloc_heap_new wo (.cells #[.slice a1 xv.length n1, .int .i64 xlo, .int .i64 xhi, .slice e1 xl.length m1] 65)
      have hb0 := below_alloc wo (.cells #[.slice a1 xv.length n1, .int .i64 xlo, .int .i64 xhi, .slice e1 xl.length m1] 65)
      have HB1 : Hid (Below w.heap.size w (wo.alloc (.cells #[.slice a1 xv.length n1, .int .i64 xlo, .int .i64 xhi, .slice e1 xl.length m1] 65))) := Lib.hid (below_alloc_keep HB.out)
      have HR1 := Lib.hid (hR.below hb0)
      have HP1 := Lib.hid (hP.below hb0)
      have HPI1 := Lib.hid (HPI.out.below hb0)
      have HG := Lib.hid hg
      have hzo := HB.out.size
      have hr1 := hR.lt
      have hr2 := hP.lt
      clear hx hvv hll hlke hq hky hR hP HPI hb0 hg hlk
      go_wp2_with fail
      refine (HPV _).out.mono ?_
      rintro _ w3 ⟨rfl, hb3⟩
      have HG3 := Lib.hid (box_kept HG.out hb3)
      obtain ⟨⟨d0, d1, d2, d3⟩, _, _, _, _⟩ := box_four HG3.out
      have HB3 : Hid (Below w.heap.size w w3) := Lib.hid (below_keep HB1.out hb3)
      have HR3 := Lib.hid (HR1.out.below hb3)
      have HP3 := Lib.hid (HP1.out.below hb3)
      have HPI3 := Lib.hid (HPI1.out.below hb3)
      clear hb3 HG HB1 HR1 HP1 HPI1 HPV
      cases q
      · go_wp2_with fail
        go_roundw
        case rel => exact ⟨k + 1, fr, fp, by omega, by go_num, HR3.out.mono (Nat.le_succ _), HP3.out.mono (Nat.le_succ _), by rw [HTK.out]; exact Lib.hid (HRI.out.skip HQ.out.symm), by rw [HTK.out]; exact Lib.hid (HPI3.out.skip HQ.out.symm), HB3⟩
        case measure => simp [RowKit.intOf]; omega
      · have HKEY : ∀ W, Below w.heap.size w W → Hid (Calls Tryz.prog 46 #[.agg #[.slice a1 xv.length n1, .int .i64 xlo, .int .i64 xhi, .slice e1 xl.length m1]] W fun e w' => e = .returned (.string ⟨(rowKeyL ⟨xv, xl⟩).toArray⟩) ∧ Below W.heap.size W w') := fun W hW => Lib.hid (rowKey_any _ _ xv xl xlo xhi W (HVV.out.below hW) (HLL.out.below hW) HKY.out (HT.out.below hW))
        have hkz := rowKey_len HKY.out
        obtain ⟨ks, hks⟩ : ∃ ks : ByteArray, ks = ⟨(rowKeyL (Tup.row ⟨xv, xlo, xhi, xl⟩)).toArray⟩ := ⟨_, rfl⟩
        have HKS : Hid (ks.size ≤ maxLen) := by show ks.size ≤ maxLen; rw [hks]; show (rowKeyL _).toArray.size ≤ maxLen; rw [List.size_toArray]; unfold maxLen; omega
        have HKL : Hid (ks.data.toList = keyT ⟨xv, xlo, xhi, xl⟩) := by show _ = _; rw [hks]; rfl
        have e : (⟨(rowKeyL ⟨xv, xl⟩).toArray⟩ : ByteArray) = ks := hks.symm
        rw [e] at HKEY
        have HKM : Hid (k < maxLen) := by show k < maxLen; unfold maxLen; omega
        clear hks hkz e
        go_wp2_with fail
        refine (HKEY _ HB3.out).out.mono ?_
        rintro _ w4 ⟨rfl, hb4⟩
        have HG4 := Lib.hid (box_kept HG3.out hb4)
        clear d0 d1 d2 d3
        obtain ⟨⟨d0, d1, d2, d3⟩, _, _, _, _⟩ := box_four HG4.out
        have HB4 : Hid (Below w.heap.size w w4) := Lib.hid (below_keep HB3.out hb4)
        have HR4 := Lib.hid (HR3.out.below hb4)
        have HP4 := Lib.hid (HP3.out.below hb4)
        have HPI4 := Lib.hid (HPI3.out.below hb4)
        clear hb4 HG3 HB3 HR3 HP3 HPI3 HKEY
        go_wp2_with fail
        refine (tupleRow_any _ _ _ _ _ _ _ _ _ _ _ rfl rfl).mono ?_
        rintro _ w5 ⟨rfl, hb5⟩
        have HG5 := Lib.hid (box_kept HG4.out hb5)
        have HB5 : Hid (Below w.heap.size w w5) := Lib.hid (below_keep HB4.out hb5)
        have HR5 := Lib.hid (HR4.out.below hb5)
        have HP5 := Lib.hid (HP4.out.below hb5)
        have HPI5 := Lib.hid (HPI4.out.below hb5)
        clear hb5 HG4 HB4 HR4 HP4 HPI4 d0 d1 d2 d3
        go_wp2_with (at_mapUpdate; refine wpList_putSV Tryz.underlying92 _ rfl _ _ _ rfl w.heap.size k fr rfl HR5.out HKM.out ks (.agg #[.slice a1 xv.length n1, .slice e1 xl.length m1]) rfl rfl HKS.out ?_; intro w6 hR6 hg6)
        have HG6 : Hid (w6.heap[wo.heap.size]? = some (.cells #[.slice a1 xv.length n1, .int .i64 xlo, .int .i64 xhi, .slice e1 xl.length m1] 65 (0, 0))) := Lib.hid ((hg6.block wo.heap.size (Array.getElem?_eq_some_iff.1 HG5.out).1 (by simp; omega)).trans HG5.out)
        obtain ⟨⟨d0, d1, d2, d3⟩, _, _, _, _⟩ := box_four HG6.out
        have HB6 : Hid (Below w.heap.size w w6) := Lib.hid (HB5.out.grown hg6 HB5.out.size (fun j hj => by cases hj; exact Nat.le_refl _))
        have HP6 := Lib.hid (HP5.out.kept (.of_grown hg6) (by simp))
        have HPI6 := Lib.hid (HPI5.out.kept HR5.out hg6)
        have HR6 := Lib.hid hR6
        have hO6 := HPI6.out.get (keyT ⟨xv, xlo, xhi, xl⟩)
        have hlook := HP6.out.look Tryz.underlying93 (slPer_zero w6) HKS.out
        rw [HKL.out] at hlook
        obtain ⟨pv, hpv⟩ : ∃ pv, pv = (fp (keyT ⟨xv, xlo, xhi, xl⟩)).getD (.slice none 0 0) := ⟨_, rfl⟩
        rw [← hpv] at hlook hO6
        obtain ⟨pl, hpl⟩ : ∃ pl, pl = perOf lk (keyT ⟨xv, xlo, xhi, xl⟩) := ⟨_, rfl⟩
        rw [← hpl] at hO6
        have hplz : pl.length ≤ 100000 := by rw [hpl]; exact Nat.le_trans (perOf_len _ _) HLK.out
        obtain ⟨ap, cp, rfl⟩ := hO6.shape
        have HO6 := Lib.hid hO6
        have HPV := Lib.hid hpv
        have HPL := Lib.hid hpl
        have hn1 := HP6.out.no_row hO6
        have hn2 := HR6.out.no_row hO6
        have HN1 := Lib.hid hn1
        have HN2 := Lib.hid hn2
        clear hR6 hg6 HG5 HB5 HR5 HP5 HPI5 hO6 hpv hpl hn1 hn2
        rw [hlook]
        go_wp2_with (at_builtin; refine wpList_push rfl (.tmp 34) (.tmp 37) 98 rfl perE Tryz.underlying98 w.heap.size (.slice ap pl.length cp) pl rfl HO6.out [(xlo, xhi)] #[.int .i64 xlo, .int .i64 xhi] (Els.one rfl) 1 1 rfl rfl (by decide) (by unfold maxLen; omega) (by show _ * 16 ≤ _; omega) HB6.out.size ?_; intro g cap w7 hP7 hPa)
        have HP7 := Lib.hid (HP6.out.kept hP7.kept (fun e => HN1.out e.symm))
        have HR7 := Lib.hid (HR6.out.kept hP7.kept (fun e => HN2.out e.symm))
        have HB7 : Hid (Below w.heap.size w w7) := Lib.hid (HB6.out.trans hP7.below)
        have HPI7 : Hid (PersIn w7 w.heap.size (lk ++ [⟨xv, xlo, xhi, xl⟩]) (fun y => if y = keyT ⟨xv, xlo, xhi, xl⟩ then some (.slice (some ⟨g, 0, none⟩) (pl.length + 1) cap) else fp y)) := Lib.hid (by
          have h1 := hP7
          rw [HPV.out, HPL.out] at h1
          have h2 := HPI6.out.put (x := ⟨xv, xlo, xhi, xl⟩) HQ.out.symm (n := pl.length + 1) h1 (by rw [HPL.out])
          exact h2)
        clear hP7 hPa HP6 HR6 HB6 HPI6 HO6 HG6 d0 d1 d2 d3 hlook HN1 HN2 HPV HPL
        obtain ⟨w8, hrun8, hP8, hg8⟩ := HP7.out.put Tryz.underlying93 HKM.out HKS.out (.slice (some ⟨g, 0, none⟩) (pl.length + 1) cap)
        rw [hrun8]
        clear hrun8
        go_wp2_with fail
        have HB8 : Hid (Below w.heap.size w w8) := Lib.hid (HB7.out.grown hg8 HB7.out.size (fun j hj => by cases hj; exact Nat.le_succ _))
        have HR8 := Lib.hid (HR7.out.kept (.of_grown hg8) (by simp))
        have HPI8 := Lib.hid (HPI7.out.kept HP7.out hg8)
        rw [HKL.out] at hP8 HR8
        go_roundw
        case rel => exact ⟨k + 1, _, _, by omega, by go_num, HR8.out, hP8, by rw [HTK.out]; exact Lib.hid (HRI.out.put HQ.out.symm HVV.out HLL.out), by rw [HTK.out]; exact HPI8, HB8⟩
        case measure => simp [RowKit.intOf]; omega
    · have hkk : l.take k = l := List.take_of_length_le (by rw [← HN.out]; omega)
      rw [hkk] at HRI HPI
      have HR := Lib.hid hR
      have HP := Lib.hid hP
      have hzo := HB.out.size
      have hr1 := hR.lt
      have hr2 := hP.lt
      clear hkk hR hP hmm
      go_wp2_with (at_range; refine wpList_rangeSV Tryz.underlying92 _ rfl _ rfl w.heap.size k fr rfl HR.out ?_; intro w2 cnt0 hrg0 hg0 hs0)
      go_frame
      have hb2 : Below wo.heap.size wo w2 := (Below.refl _ _).grown hg0 (Nat.le_refl _) (fun j hj => by cases hj)
      have HBO2 := Lib.hid hb2
      have HB2 := Lib.hid (below_keep HB.out hb2)
      have HRG0 := Lib.hid hrg0
      have HZ2 := Lib.hid hs0
      have hz2 : wo.heap.size < w2.heap.size := by omega
      clear hrg0 hg0 hs0 hb2 HR
      go_loopw [8] (fun o wr => ∃ (L : List UInt8 → Bool) (cnt : Nat) (out : List Tup), RngSV wr w.heap.size wo.heap.size k fr L cnt ∧ Own (tupE.avoid fun k => k = wo.heap.size) wr (wo.heap.size + 1) o out ∧ Hid (NrmI l L out) ∧ Hid (Below wo.heap.size w2 wr)) (fun _ wr => wr.rangeLeft w.heap.size wo.heap.size)
      case atStart => exact ⟨_, _, [], HRG0.out, Own.nil _ _ _, Lib.hid (NrmI.start HRI.out.dom), Lib.hid (.refl _ _)⟩
      case round =>
        obtain ⟨L, cnt, out, hrg, hO, HI, HBR⟩ := hrel
        obtain ⟨w6, rfl⟩ : ∃ w6 : World, w6 = wr := ⟨_, rfl⟩
        obtain ⟨ao, co, rfl⟩ := hO.shape
        have HRG := Lib.hid hrg
        have HO := Lib.hid hO
        have hol := HI.out.small
        rw [← HN.out] at hol
        have HB6 : Hid (Below w.heap.size w w6) := Lib.hid (HB2.out.trans (HBR.out.mono (by omega)))
        clear hrg hO
        go_wp2_with (at_next; refine wpList_nextSV _ rfl _ rfl w.heap.size wo.heap.size k fr L cnt rfl HRG.out ?_ ?_)
        · intro hdone
          have HD := Lib.hid hdone
          have HSR := Lib.hid (sortTups_any _ out _ w6 HO.out.forget (by omega))
          clear hdone
          go_wp2_with fail
          refine HSR.out.mono ?_
          rintro _ w7 ⟨rfl, T, hp, hs, hO7, hb7⟩
          obtain ⟨aT, cT, eT⟩ := hO7.shape
          have HO7 := Lib.hid hO7
          have HPM := Lib.hid hp
          have HST := Lib.hid hs
          have HB7 : Hid (Below w.heap.size w w7) := Lib.hid (HB6.out.trans (hb7.mono (by omega)))
          clear hp hs hO7 hb7 eT HSR
          go_wp2_with fail
          go_ret
          exact ⟨T, HI.out.done HD.out HPM.out (HST.out.imp (by intro a b h; omega)), by rw [HPM.out.length_eq, HN.out]; exact HI.out.small, _, rfl, HO7.out.mono (by omega), HB7.out⟩
        · intro s c w7 cnt7 hss hf hL hrg7 hlt7 hg7 hsz7 hen7
          obtain ⟨x, hxl, hxv, hxk, v1, u1, rfl, hv1, hu1⟩ := HRI.out.at' _ _ hf
          obtain ⟨a1, c1, rfl⟩ := hv1.shape
          obtain ⟨b1, d1, rfl⟩ := hu1.shape
          have hky := HK.out x hxl
          obtain ⟨xv, xlo, xhi, xl⟩ := x
          dsimp only at hv1 hu1 hen7
          have HV1 := Lib.hid hv1
          have HU1 := Lib.hid hu1
          have HKY := Lib.hid hky
          have HXK : Hid (rowKeyL (Tup.row ⟨xv, xlo, xhi, xl⟩) = s.data.toList) := Lib.hid hxk
          have HL := Lib.hid hL
          have HLT7 := Lib.hid hlt7
          have HRG7 := Lib.hid hrg7
          have HSS := Lib.hid hss
          have hz6 := HBR.out.size
          have HBR7 : Hid (Below wo.heap.size w2 w7) := Lib.hid (HBR.out.grown hg7 (by omega) (fun j hj => by cases hj; exact Nat.le_refl _))
          have HO7 := Lib.hid (HO.out.else (w' := w7) ⟨by omega, fun k hk hne => hg7.block k hk (fun e => hne (by cases e; rfl))⟩ (fun k hk e => by have := (HO.out.lt k hk).1; cases e; omega))
          have hbo7 : Below wo.heap.size wo w7 := HBO2.out.trans HBR7.out
          have hb8 := below_alloc w7 (.cells #[.slice a1 xv.length c1, .slice b1 xl.length d1] 96)
          have hbo8 := below_keep hbo7 hb8
          have hO8 := (HPI.out.below hbo8).get s.data.toList
          have hlook := (HP.out.below hbo8).look Tryz.underlying93 (slPer_zero _) HSS.out
          obtain ⟨pv, hpv⟩ : ∃ pv, pv = (fp s.data.toList).getD (.slice none 0 0) := ⟨_, rfl⟩
          rw [← hpv] at hlook hO8
          obtain ⟨pl, hpl⟩ : ∃ pl, pl = perOf l s.data.toList := ⟨_, rfl⟩
          rw [← hpl] at hO8
          have hplz : pl.length ≤ 100000 := by rw [hpl]; exact Nat.le_trans (perOf_len _ _) (by rw [← HN.out]; exact hl)
          have hpv2 : ∀ p ∈ pl, pvalid p.1 p.2 = true := by rw [hpl]; exact perOf_valid _ _
          have HLV := Lib.hid (levels_any _ pl _ hO8.sl hplz hpv2)
          obtain ⟨ap, cp, rfl⟩ := hO8.shape
          have HPL := Lib.hid hpl
          have hX8 := World.alloc_heap_new w7 (.cells #[.slice a1 xv.length c1, .slice b1 xl.length d1] 96)
          have HX8 := Lib.hid hX8
          have HO8 := Lib.hid (HO7.out.below hb8)
          have HBR8 : Hid (Below (wo.heap.size + 1) w7 (w7.alloc (.cells #[.slice a1 xv.length c1, .slice b1 xl.length d1] 96))) := Lib.hid (hb8.mono (by omega))
          have hz7 : wo.heap.size < w7.heap.size := by have := HBR7.out.size; omega
          clear hsz7 hv1 hu1 hky hxk hL hlt7 hrg7 hss hf hg7 hbo7 hbo8 hO8 hpv hpl hpv2 hb8 hX8 hxl hxv HO
          go_wp2_with fail
          clear hlook
          refine HLV.out.mono ?_
          rintro _ w9 ⟨M, hM, hMl, vM, rfl, hOM, hb9⟩
          obtain ⟨aM, cM, rfl⟩ := hOM.shape
          have HX9 := Lib.hid (box_kept HX8.out hb9)
          have HO9 := Lib.hid (HO8.out.below hb9)
          have HBR9 := Lib.hid (HBR8.out.trans (hb9.mono (by simp; omega)))
          have HOM := Lib.hid (hOM.mono (B' := w7.heap.size + 1) (by simp))
          have HM := Lib.hid hM
          have HML := Lib.hid hMl
          have hal : ∀ k, (Value.slice ao out.length co).ownBlock = some k → k < w7.heap.size := fun k hk => (HO7.out.lt k hk).2
          have HAP : Hid (Apart (Value.slice ao out.length co) (.slice aM M.length cM)) := Lib.hid (fun k hk e => by have h1 := hal k hk; have h2 := (HOM.out.lt k e).1; omega)
          have HNE : Hid ((Value.slice ao out.length co).ownBlock ≠ some w7.heap.size) := Lib.hid (fun e => by have := hal _ e; omega)
          have hz9 : w7.heap.size < w9.heap.size := (Array.getElem?_eq_some_iff.1 HX9.out).1
          clear hM hOM hb9 hal HLV HX8 HO8 HBR8
          go_wp2_with fail
          go_loopw [52, 8] (fun i o wr => ∃ j : Nat, j ≤ M.length ∧ i = .int .i64 j ∧ Own (tupE.avoid fun k => k = wo.heap.size) wr (wo.heap.size + 1) o (out ++ (M.take j).map fun p => (⟨xv, p.1, p.2, xl⟩ : Tup)) ∧ Own perE wr (w7.heap.size + 1) (.slice aM M.length cM) M ∧ Hid (Apart o (.slice aM M.length cM)) ∧ Hid (o.ownBlock ≠ some w7.heap.size) ∧ Hid (wr.heap[w7.heap.size]? = some (.cells #[.slice a1 xv.length c1, .slice b1 xl.length d1] 96 (0, 0))) ∧ Hid (Below (wo.heap.size + 1) w7 wr)) (fun i _ _ => M.length - (RowKit.intOf i).toNat)
          case atStart => exact ⟨0, Nat.zero_le _, rfl, by simpa using HO9.out, HOM.out, HAP, HNE, HX9, HBR9⟩
          case round =>
            obtain ⟨j, hj, rfl, hOj, hMj, HAj, HNj, HXj, HBj⟩ := hrel
            obtain ⟨wx, rfl⟩ : ∃ wx : World, wx = wr := ⟨_, rfl⟩
            obtain ⟨acc, hacc⟩ : ∃ acc, acc = out ++ (M.take j).map fun p => (⟨xv, p.1, p.2, xl⟩ : Tup) := ⟨_, rfl⟩
            rw [← hacc] at hOj
            obtain ⟨aj, cj, rfl⟩ := hOj.shape
            by_cases hjlt : j < M.length
            · obtain ⟨p, hp⟩ := lget_some M j hjlt
              obtain ⟨b, o, rfl, p0, p1⟩ := pers_at hMj.sl hp
              have HAC : Hid (out ++ (M.take (j + 1)).map (fun p => (⟨xv, p.1, p.2, xl⟩ : Tup)) = acc ++ [⟨xv, p.1, p.2, xl⟩]) := by show _ = _; rw [hacc, take_get hp, List.map_append, List.append_assoc]; rfl
              have hacl : acc.length ≤ 200000 := by rw [hacc, List.length_append, List.length_map, List.length_take]; have := HML.out; omega
              obtain ⟨pl1, ph1⟩ := p
              dsimp only at p0 p1 HAC
              have hba := below_alloc wx (.cells #[.int .i64 pl1, .int .i64 ph1] 28)
              have hXa := box_kept HXj.out hba
              obtain ⟨e0, e1⟩ := box_two' hXa
              have HOa := Lib.hid (hOj.below hba)
              have HMa := Lib.hid (hMj.below hba)
              have HXa := Lib.hid hXa
              have HBa := Lib.hid (below_tr HBj.out (hba.mono (by have := HBj.out.size; omega)))
              have HWa : Hid (Below w.heap.size w (wx.alloc (.cells #[.int .i64 pl1, .int .i64 ph1] 28))) := Lib.hid (below_tr (below_tr HB2.out (HBR7.out.mono (by omega))) (HBa.out.mono (by omega)))
              have hzx := HBj.out.size
              clear hp hOj hMj hba hXa hacc
              go_wp2_with fail
              refine (during_any _ _ ⟨xv, pl1, ph1, xl⟩ _ (HV1.out.below HWa.out).vals (HU1.out.below HWa.out).ints HKY.out.nv HKY.out.nl).mono ?_
              rintro _ wD hN
              obtain ⟨a4, c4, b4, d4, rfl, his⟩ := hN.cells
              have hbD := hN.below
              have HOD := Lib.hid (HOa.out.below hbD)
              have HMD := Lib.hid (HMa.out.below hbD)
              have HXD := Lib.hid (box_kept HXa.out hbD)
              have HBD := Lib.hid (below_tr HBa.out (hbD.mono (by have := HBa.out.size; omega)))
              have HIS : Hid (Els (tupE.avoid fun k => k = wo.heap.size) wD (fun k => some k = (Value.slice aj acc.length cj).ownBlock) [⟨xv, pl1, ph1, xl⟩] [.slice a4 xv.length c4, .int .i64 pl1, .int .i64 ph1, .slice b4 xl.length d4]) := Lib.hid (Els.one (tupE.mono his (fun k _ hk => by
                rcases hk with hk | hk
                · exact (HOa.out.lt k hk.symm).2
                · have := HBa.out.size; omega)))
              have hzD := HBD.out.size
              clear hN his hbD HOa HMa HXa HBa HWa e0 e1
              go_wp2_with (at_builtin; refine wpList_push rfl (.tmp 56) (.tmp 60) 45 rfl (tupE.avoid fun k => k = wo.heap.size) Tryz.underlying45 (wo.heap.size + 1) (.slice aj acc.length cj) acc rfl HOD.out [⟨xv, pl1, ph1, xl⟩] #[.slice a4 xv.length c4, .int .i64 pl1, .int .i64 ph1, .slice b4 xl.length d4] HIS.out 1 1 rfl rfl (by decide) (by unfold maxLen; omega) (by show _ * 64 ≤ _; omega) (by omega) ?_; intro g cap w5 hP hPa)
              go_roundw
              case rel =>
                refine ⟨j + 1, by omega, by go_num, ?_, ?_, ?_, ?_, ?_, ?_⟩
                · rw [HAC.out]; exact hP.own' (by simp)
                · exact hP.keep perE_flat HAj.out HMD.out
                · exact Lib.hid (hP.apart HAj.out (fun k hk => (HMD.out.lt k hk).2))
                · exact Lib.hid (fun e => hP.ne' (n := acc.length + 1) (fun e2 => HNj.out e2.symm) HXD.out e.symm)
                · exact Lib.hid (hP.block (fun e2 => HNj.out e2.symm) HXD.out)
                · exact Lib.hid (HBD.out.trans hP.below)
              case measure => simp [RowKit.intOf]; omega
            · have hjM : j = M.length := by omega
              subst hjM
              have HRGj : Hid (RngSV wx w.heap.size wo.heap.size k fr (fun z => L z && !(z == s.data.toList)) cnt7) := Lib.hid (HRG7.out.below HBj.out (by omega) (Nat.lt_succ_self _))
              have HIj : Hid (NrmI l (fun z => L z && !(z == s.data.toList)) acc) := Lib.hid (by
                have h1 := HPL.out
                have h2 := HM.out
                have h3 := HML.out
                rw [h1, ← HXK.out] at h2 h3
                have h4 := HI.out.step (r := Tup.row ⟨xv, xlo, xhi, xl⟩) (by rw [HXK.out]; exact HL.out) h2 h3
                rw [HXK.out] at h4
                rw [hacc, List.take_of_length_le (Nat.le_refl _)]
                exact h4)
              have HOJ := Lib.hid hOj
              have HBJ : Hid (Below wo.heap.size w2 wx) := Lib.hid (below_tr HBR7.out (HBj.out.mono (by omega)))
              clear hOj hMj hacc
              go_wp2_with fail
              go_roundw
              case rel => exact ⟨_, _, _, HRGj.out, HOJ.out, HIj, HBJ⟩
              case measure =>
                rw [HRGj.out.left_eq, HRG.out.left_eq]
                exact HLT7.out
end Go.Proofs.YtpihlglblgbbeaaGreatDoor

namespace Go.Proofs.YtpihlglblgbbeaaGreatDoor
open Go.RowKit Go.Lib

theorem sameRowL_iff {a b : List GVal} {l m : List Int} : sameRowL a b l m = true ↔ a = b ∧ l = m := by
  unfold sameRowL
  simp only [Bool.and_eq_true, decide_eq_true_eq, cmpRows_zero, cmpInts_zero]
theorem sameTup_iff {a b : Tup} : sameTup a b = true ↔ a = b := by
  obtain ⟨v, x, y, u⟩ := a
  obtain ⟨v', x', y', u'⟩ := b
  unfold sameTup
  simp only [Bool.and_eq_true, beq_iff_eq, sameRowL_iff, Tup.mk.injEq]
  constructor
  · rintro ⟨⟨rfl, rfl⟩, rfl, rfl⟩; exact ⟨rfl, rfl, rfl, rfl⟩
  · rintro ⟨rfl, rfl, rfl, rfl⟩; exact ⟨⟨rfl, rfl⟩, rfl, rfl⟩
theorem sameTups_iff : ∀ {l m : List Tup}, sameTups l m = true ↔ l = m
  | [], [] => by simp [sameTups]
  | [], b :: m => by simp [sameTups]
  | a :: l, [] => by simp [sameTups]
  | a :: l, b :: m => by
    rw [sameTups, Bool.and_eq_true, sameTup_iff, sameTups_iff, List.cons.injEq]
theorem cmpTup_same (a b : Tup) : (cmpTup a b == 0) = sameTup a b := by
  rw [Bool.eq_iff_iff, beq_iff_eq, cmpTup_zero, sameTup_iff]
set_option maxHeartbeats 1000000 in
theorem same1_any (a b : Tup) (v u v2 u2 : Value) (w : World) (hv : Sl valE w free v a.vals) (hu : Sl intE w free u a.lin) (hv2 : Sl valE w free v2 b.vals) (hu2 : Sl intE w free u2 b.lin) :
    Calls Tryz.prog 43 #[.agg #[v, .int .i64 a.lo, .int .i64 a.hi, u], .agg #[v2, .int .i64 b.lo, .int .i64 b.hi, u2]] w fun e w' => e = .returned (.bool (sameTup a b)) ∧ Below w.heap.size w w' := by
  obtain ⟨z, hz⟩ : ∃ z, z = cmpTup a b := ⟨_, rfl⟩
  have HZ : Hid (sameTup a b = (z == 0)) := by show _ = _; rw [hz, cmpTup_same]
  have HC : ∀ W, Grew w W → Hid (Calls Tryz.prog 44 #[.agg #[v, .int .i64 a.lo, .int .i64 a.hi, u], .agg #[v2, .int .i64 b.lo, .int .i64 b.hi, u2]] W fun e w' => e = .returned (.int .i64 z) ∧ Grew W w') := fun W h => hz ▸ tupCmp_g a b v u v2 u2 W (hv.below h.below) (hu.below h.below) (hv2.below h.below) (hu2.below h.below)
  obtain ⟨a1, c1, rfl⟩ := hv.shape
  obtain ⟨a2, c2, rfl⟩ := hu.shape
  obtain ⟨a3, c3, rfl⟩ := hv2.shape
  obtain ⟨a4, c4, rfl⟩ := hu2.shape
  generalize sameTup a b = r at HZ ⊢
  generalize a.vals.length = n1 at HC ⊢
  generalize a.lin.length = n2 at HC ⊢
  generalize b.vals.length = n3 at HC ⊢
  generalize b.lin.length = n4 at HC ⊢
  generalize a.lo = l1 at HC ⊢
  generalize a.hi = h1 at HC ⊢
  generalize b.lo = l2 at HC ⊢
  generalize b.hi = h2 at HC ⊢
  clear hv hu hv2 hu2 hz
  have hB0 := grew_alloc2 w (.cells #[.slice a1 n1 c1, .int .i64 l1, .int .i64 h1, .slice a2 n2 c2] 65) (.cells #[.slice a3 n3 c3, .int .i64 l2, .int .i64 h2, .slice a4 n4 c4] 65)
  obtain ⟨⟨d0, d1, d2, d3⟩, _⟩ := box_four (heap_alloc_old' w (.cells #[.slice a1 n1 c1, .int .i64 l1, .int .i64 h1, .slice a2 n2 c2] 65) (.cells #[.slice a3 n3 c3, .int .i64 l2, .int .i64 h2, .slice a4 n4 c4] 65))
  obtain ⟨⟨e0, e1, e2, e3⟩, _⟩ := box_four (heap_alloc_new' w (.cells #[.slice a1 n1 c1, .int .i64 l1, .int .i64 h1, .slice a2 n2 c2] 65) (.cells #[.slice a3 n3 c3, .int .i64 l2, .int .i64 h2, .slice a4 n4 c4] 65))
  have HC0 := HC _ hB0
  have HB0 := Lib.hid hB0
  clear hB0 HC
  go_enter Tryz.func43, Tryz.ntmps43
  go_wp2_with fail
  refine HC0.out.mono ?_
  rintro _ w2 ⟨rfl, hg⟩
  have HB : Hid (Below w.heap.size w w2) := Lib.hid (HB0.out.trans hg).below
  clear hg
  go_wp2_with fail
  go_ret
  exact ⟨ret_bool HZ.out.symm, HB.out⟩
set_option maxHeartbeats 4000000 in
set_option maxRecDepth 100000 in
theorem eqFun_any (v u : Value) (l m : List Tup) (w : World) (hv : Tups w v l) (hu : Tups w u m) :
    Calls Tryz.prog 42 #[v, u, .func (.func 43) #[] #[]] w fun e w' => e = .returned (.bool (sameTups l m)) ∧ Below w.heap.size w w' := by
  obtain ⟨a, c, rfl⟩ := hv.shape
  obtain ⟨a2, c2, rfl⟩ := hu.shape
  have h63 := hv.1
  have g63 := hu.1
  have HV := Lib.hid hv
  have HU := Lib.hid hu
  by_cases hlen : l.length = m.length
  · obtain ⟨n, hn⟩ : ∃ n, n = l.length := ⟨_, rfl⟩
    have HN := Lib.hid hn
    have HM : Hid (n = m.length) := Lib.hid (hn.trans hlen)
    rw [← hlen, ← hn] at HU
    rw [← hn] at HV h63
    rw [← hlen, ← hn]
    clear hv hu hn hlen g63
    go_enter Tryz.func42, Tryz.ntmps42
    go_wp2_with fail
    go_loopw [17] (fun i wr => ∃ k : Nat, k ≤ n ∧ i = .int .i64 k ∧ Hid (sameTups (l.drop k) (m.drop k) = sameTups l m) ∧ Hid (Below w.heap.size w wr)) (fun i _ => n - (intOf i).toNat)
    case atStart => exact ⟨0, Nat.zero_le _, rfl, Lib.hid rfl, Lib.hid (Below.refl _ _)⟩
    case round =>
      obtain ⟨k, hk, rfl, HR, HB⟩ := hrel
      obtain ⟨wo, rfl⟩ : ∃ wo : World, wo = wr := ⟨_, rfl⟩
      by_cases hlt : k < n
      · obtain ⟨x, hx⟩ := lget_some l k (by rw [← HN.out]; exact hlt)
        obtain ⟨y, hy⟩ := lget_some m k (by rw [← HM.out]; exact hlt)
        obtain ⟨b, o, a1, n1, e1, m1, rfl, hv1, hu1, p0, p1, p2, p3⟩ := tups_at (HV.out.below HB.out) hx
        obtain ⟨b2, o2, a3, n3, e3, m3, rfl, hv2, hu2, q0, q1, q2, q3⟩ := tups_at (HU.out.below HB.out) hy
        have HC := fun W (h : Below wo.heap.size wo W) => Lib.hid (same1_any x y _ _ _ _ W (hv1.below h) (hu1.below h) (hv2.below h) (hu2.below h))
        have HS : Hid (sameTups (l.drop k) (m.drop k) = (sameTup x y && sameTups (l.drop (k + 1)) (m.drop (k + 1)))) := by show _ = _; rw [drop_get hx, drop_get hy]; rfl
        obtain ⟨q, hq⟩ : ∃ q, q = sameTup x y := ⟨_, rfl⟩
        rw [← hq] at HC HS
        obtain ⟨xv, xlo, xhi, xl⟩ := x
        obtain ⟨yv, ylo, yhi, yl⟩ := y
        dsimp only at p0 p1 p2 p3 q0 q1 q2 q3 HC
        have hb0 := below_alloc wo (.cells #[.slice a1 xv.length n1, .int .i64 xlo, .int .i64 xhi, .slice e1 xl.length m1] 65)
        have g1 := heap_alloc_old' wo (.cells #[.slice a1 xv.length n1, .int .i64 xlo, .int .i64 xhi, .slice e1 xl.length m1] 65) (.cells #[.slice a3 yv.length n3, .int .i64 ylo, .int .i64 yhi, .slice e3 yl.length m3] 65)
        have g2 := heap_alloc_new' wo (.cells #[.slice a1 xv.length n1, .int .i64 xlo, .int .i64 xhi, .slice e1 xl.length m1] 65) (.cells #[.slice a3 yv.length n3, .int .i64 ylo, .int .i64 yhi, .slice e3 yl.length m3] 65)
        have hb2 := below_alloc_two wo (.cells #[.slice a1 xv.length n1, .int .i64 xlo, .int .i64 xhi, .slice e1 xl.length m1] 65) (.cells #[.slice a3 yv.length n3, .int .i64 ylo, .int .i64 yhi, .slice e3 yl.length m3] 65)
        obtain ⟨⟨d0, d1, d2, d3⟩, _⟩ := box_four g1
        obtain ⟨⟨f0, f1, f2, f3⟩, _⟩ := box_four g2
        have r0 := cell_keep hb0 q0
        have r1 := cell_keep hb0 q1
        have r2 := cell_keep hb0 q2
        have r3 := cell_keep hb0 q3
        have HC0 := HC _ hb2
        have HB2 := Lib.hid (below_keep HB.out hb2)
        clear hx hy hv1 hu1 hv2 hu2 hq hb0 g1 g2 hb2 HC q0 q1 q2 q3
        go_wp2_with fail
        refine HC0.out.mono ?_
        rintro _ w3 ⟨rfl, hb3⟩
        have HB3 := Lib.hid (below_keep HB2.out hb3)
        clear hb3
        cases q
        · have HF : Hid (sameTups l m = false) := by show _ = _; rw [← HR.out, HS.out]; rfl
          go_wp2_with fail
          go_ret
          exact ⟨ret_bool HF.out.symm, HB3.out⟩
        · have HF : Hid (sameTups (l.drop (k + 1)) (m.drop (k + 1)) = sameTups l m) := by show _ = _; rw [← HR.out, HS.out]; rfl
          go_wp2_with fail
          go_roundw
          case rel => exact ⟨k + 1, by omega, by go_num, HF, HB3⟩
          case measure => simp [intOf]; omega
      · have HF : Hid (sameTups l m = true) := by
          show _ = _
          rw [← HR.out, List.drop_of_length_le (l := l) (by rw [← HN.out]; omega), List.drop_of_length_le (l := m) (by rw [← HM.out]; omega)]; rfl
        go_wp2_with fail
        go_ret
        exact ⟨ret_bool HF.out.symm, HB.out⟩
  · have HF : Hid (sameTups l m = false) := sameTups_ne l m hlen
    obtain ⟨n, hn⟩ : ∃ n, n = l.length := ⟨_, rfl⟩
    obtain ⟨n2, hn2⟩ : ∃ n, n = m.length := ⟨_, rfl⟩
    rw [← hn, ← hn2] at hlen ⊢
    rw [← hn] at h63
    rw [← hn2] at g63
    have hne : ((n : Int) != (n2 : Int)) = true := by rw [bne_iff_ne]; omega
    clear hv hu HV HU hn hn2 hlen
    go_enter Tryz.func42, Tryz.ntmps42
    go_wp2_with fail
    go_ret
    exact ⟨ret_bool HF.out.symm, Below.refl _ _⟩
set_option maxHeartbeats 1000000 in
theorem same_any (v u : Value) (l m : List Tup) (w : World) (hv : Tups w v l) (hu : Tups w u m) :
    Calls Tryz.prog 24 #[v, u] w fun e w' => e = .returned (.bool (sameTups l m)) ∧ Below w.heap.size w w' := by
  have HE := Lib.hid (eqFun_any v u l m w hv hu)
  clear hv hu
  generalize sameTups l m = q at HE ⊢
  go_enter Tryz.func24, Tryz.ntmps24
  go_wp2_with fail
  refine HE.out.mono ?_
  rintro _ w2 ⟨rfl, hb⟩
  have HB := Lib.hid hb
  clear hb
  go_wp2_with fail
  go_ret
  exact ⟨rfl, HB.out⟩
set_option maxHeartbeats 1000000 in
theorem equiv_any (v u : Value) (a b : List Tup) (w : World) (hv : Tups w v a) (hu : Tups w u b) (ha : a.length ≤ 100000) (hb : b.length ≤ 100000) (hKa : ∀ x ∈ a, Keyable x.row) (hKb : ∀ x ∈ b, Keyable x.row) (hT : Pow w) :
    Calls Tryz.prog 12 #[v, u] w fun e w' => ∃ q : Bool, Hid (q = true ↔ ∀ t, (atDay a t).Perm (atDay b t)) ∧ e = .returned (.bool q) ∧ Below w.heap.size w w' := by
  have HN1 := Lib.hid (normalize_any v a w hv ha hKa hT)
  have HN2 : ∀ W, Below w.heap.size w W → Hid (Calls Tryz.prog 25 #[u] W fun e w' => ∃ T, IsNF b T ∧ T.length ≤ b.length ∧ RetOwn tupE W T e w') := fun W h => normalize_any u b W (hu.below h) hb hKb (hT.below h)
  have HN2' := Lib.hid HN2
  clear hv hu HN2
  go_enter Tryz.func12, Tryz.ntmps12
  go_wp2_with fail
  refine HN1.out.mono ?_
  rintro _ w2 ⟨S, hS, hSl, vS, rfl, hOS, hb2⟩
  have HS := Lib.hid hS
  have HOS := Lib.hid hOS
  have HB2 := Lib.hid hb2
  have HN3 := HN2'.out w2 hb2
  clear hS hSl hOS hb2 HN2'
  go_wp2_with fail
  refine HN3.out.mono ?_
  rintro _ w3 ⟨T, hT, hTl, vT, rfl, hOT, hb3⟩
  have HTT := Lib.hid hT
  have HSM := Lib.hid (same_any _ _ S T w3 (HOS.out.below hb3).sl hOT.sl)
  have HB3 := Lib.hid (below_keep HB2.out hb3)
  have HQ : Hid (sameTups S T = true ↔ ∀ t, (atDay a t).Perm (atDay b t)) := Lib.hid (sameTups_iff.trans (HS.out.iff HTT.out))
  clear hT hTl hOT hb3
  generalize sameTups S T = q at HSM HQ
  go_wp2_with fail
  refine HSM.out.mono ?_
  rintro _ w4 ⟨rfl, hb4⟩
  have HB4 := Lib.hid (below_keep HB3.out hb4)
  clear hb4
  go_wp2_with fail
  go_ret
  exact ⟨q, HQ, rfl, HB4.out⟩
end Go.Proofs.YtpihlglblgbbeaaGreatDoor

namespace Go.Proofs.YtpihlglblgbbeaaGreatDoor
open Go.RowKit Go.Lib Go.Maps Go.Shelf

/-- A box holds an edit; what it leads to lies elsewhere. -/
def DeltaAt (m : Nat) (w3 : World) (cl : List Int) (ad : List Tup) (s : Value) (wx : World) : Prop :=
  ∃ gd a1 c1 a2 c2, s = .pointer (some ⟨gd, 0, none⟩) ∧ m ≤ gd ∧ wx.cell? ⟨gd, 0, none⟩ = some (.slice a1 cl.length c1) ∧ wx.cell? ⟨gd, 1, none⟩ = some (.slice a2 ad.length c2) ∧ wx.frozen? ⟨gd, 0, none⟩ = false ∧ wx.frozen? ⟨gd, 1, none⟩ = false ∧ Sl intE wx (fun k => k = gd) (.slice a1 cl.length c1) cl ∧ Sl tupE wx (fun k => k = gd) (.slice a2 ad.length c2) ad ∧ Below m w3 wx
theorem delta_old {m gd : Nat} {w3 W : World} {a1 a2 : Option Addr} {n1 n2 c1 c2 : Nat} {cl : List Int} {ad : List Tup} {u0 u1 : Value} (e1 : n1 = cl.length) (e2 : n2 = ad.length) (h0 : W.cell? ⟨gd, 0, none⟩ = some u0) (h1 : W.cell? ⟨gd, 1, none⟩ = some u1) (f0 : W.frozen? ⟨gd, 0, none⟩ = false) (f1 : W.frozen? ⟨gd, 1, none⟩ = false) (hm : m ≤ gd)
    (hc : Sl intE W (fun k => k = gd) (.slice a1 n1 c1) cl) (ha : Sl tupE W (fun k => k = gd) (.slice a2 n2 c2) ad) (hb : Below m w3 W) :
    DeltaAt m w3 cl ad (.pointer (some ⟨gd, 0, none⟩)) ((W.setCell ⟨gd, 0, none⟩ (.slice a1 n1 c1)).setCell ⟨gd, 1, none⟩ (.slice a2 n2 c2)) := by
  subst e1 e2
  have hk : Kept (fun k => k = gd) W ((W.setCell ⟨gd, 0, none⟩ (.slice a1 cl.length c1)).setCell ⟨gd, 1, none⟩ (.slice a2 ad.length c2)) :=
    (kept_set (G := fun k => k = gd) (q := ⟨gd, 0, none⟩) rfl).trans (kept_set (G := fun k => k = gd) (q := ⟨gd, 1, none⟩) rfl)
  refine ⟨gd, a1, c1, a2, c2, rfl, hm, ?_, ?_, by simp [f0], by simp [f1], hc.kept hk, ha.kept hk, (hb.setCell (p := ⟨gd, 0, none⟩) hm _).setCell (p := ⟨gd, 1, none⟩) hm _⟩
  · rw [World.cell?_setCell_other _ _ _ _ (by intro e; cases e)]
    exact World.cell?_setCell_same _ _ _ h0
  · obtain ⟨v', h'⟩ := cell?_setCell_some (p := ⟨gd, 0, none⟩) (x := .slice a1 cl.length c1) h1
    exact World.cell?_setCell_same _ _ _ h'
theorem delta_new {m : Nat} {w3 W : World} {a1 a2 : Option Addr} {n1 n2 c1 c2 : Nat} {cl : List Int} {ad : List Tup} {G : Nat → Prop} (e1 : n1 = cl.length) (e2 : n2 = ad.length) (hm : m ≤ W.heap.size)
    (hc : Sl intE W G (.slice a1 n1 c1) cl) (ha : Sl tupE W G (.slice a2 n2 c2) ad) (hb : Below m w3 W) :
    DeltaAt m w3 cl ad (.pointer (some ⟨W.heap.size, 0, none⟩)) (((W.alloc (.cells #[.slice none 0 0, .slice none 0 0] 47)).setCell ⟨W.heap.size, 0, none⟩ (.slice a1 n1 c1)).setCell ⟨W.heap.size, 1, none⟩ (.slice a2 n2 c2)) := by
  obtain ⟨h0, h1, f0, f1⟩ := box_two (World.alloc_heap_new W (.cells #[.slice none 0 0, .slice none 0 0] 47))
  have hba := below_alloc W (.cells #[.slice none 0 0, .slice none 0 0] 47)
  exact delta_old e1 e2 h0 h1 f0 f1 hm ((hc.old (Nat.le_refl _)).mono (fun k _ e => Nat.le_of_eq e.symm) |>.below hba) ((ha.old (Nat.le_refl _)).mono (fun k _ e => Nat.le_of_eq e.symm) |>.below hba) (hb.trans (hba.mono hm))
theorem box_new {w w' : World} {o : Obj} (h : Below (w.alloc o).heap.size (w.alloc o) w') : w'.heap[w.heap.size]? = some o := box_kept (World.alloc_heap_new w o) h
theorem box_new_drew {w w' : World} {o : Obj} (h : Below (w.alloc o).drew.heap.size (w.alloc o).drew w') : w'.heap[w.heap.size]? = some o := box_kept (w := (w.alloc o).drew) (World.alloc_heap_new w o) h
theorem box_drewb {w w' : World} {g : Nat} {o : Obj} (hg : w.heap[g]? = some o) (h : Below w.drew.heap.size w.drew w') : w'.heap[g]? = some o := box_kept (w := w.drew) hg h
theorem below_put2 {w3 W : World} {o : Obj} {x y : Value} (h : Below w3.heap.size w3 W) : Below w3.heap.size w3 (((W.alloc o).setCell ⟨W.heap.size, 0, none⟩ x).setCell ⟨W.heap.size, 1, none⟩ y) :=
  ((h.alloc h.size o).setCell (p := ⟨W.heap.size, 0, none⟩) h.size _).setCell (p := ⟨W.heap.size, 1, none⟩) h.size _
theorem cell_put2 {W : World} {o : Obj} {x y : Value} {p : Addr} {v : Value} (h : W.cell? p = some v) : (((W.alloc o).setCell ⟨W.heap.size, 0, none⟩ x).setCell ⟨W.heap.size, 1, none⟩ y).cell? p = some v := by
  have hne := World.new_ne W p h
  rw [World.cell?_setCell_far _ _ _ _ hne, World.cell?_setCell_far _ _ _ _ hne]
  exact cell_alloc h
theorem below_set2 {w3 W : World} {p q : Addr} {x y : Value} (h : Below w3.heap.size w3 W) (hp : w3.heap.size ≤ p.block) (hq : w3.heap.size ≤ q.block) : Below w3.heap.size w3 ((W.setCell p x).setCell q y) := (h.setCell hp _).setCell hq _
theorem cell_set2 {W : World} {q1 q2 : Addr} {x y : Value} {p : Addr} {v : Value} (h : W.cell? p = some v) (h1 : q1.block ≠ p.block) (h2 : q2.block ≠ p.block) : ((W.setCell q1 x).setCell q2 y).cell? p = some v := by
  rw [World.cell?_setCell_far _ _ _ _ h2, World.cell?_setCell_far _ _ _ _ h1]
  exact h
theorem delta_made {m : Nat} {w3 W : World} {a1 a2 : Option Addr} {n1 n2 c1 c2 : Nat} {cl : List Int} {ad : List Tup} {G : Nat → Prop} (e1 : n1 = cl.length) (e2 : n2 = ad.length) (hm : m ≤ W.heap.size)
    (hc : Sl intE W G (.slice a1 n1 c1) cl) (ha : Sl tupE W G (.slice a2 n2 c2) ad) (hb : Below m w3 W) :
    DeltaAt m w3 cl ad (.pointer (some ⟨W.heap.size, 0, none⟩)) (W.alloc (.cells #[.slice a1 n1 c1, .slice a2 n2 c2] 47)) := by
  subst e1 e2
  obtain ⟨h0, h1, f0, f1⟩ := box_two (World.alloc_heap_new W (.cells #[.slice a1 cl.length c1, .slice a2 ad.length c2] 47))
  have hba := below_alloc W (.cells #[.slice a1 cl.length c1, .slice a2 ad.length c2] 47)
  exact ⟨W.heap.size, a1, c1, a2, c2, rfl, hm, h0, h1, f0, f1, (hc.old (Nat.le_refl _)).mono (fun k _ e => Nat.le_of_eq e.symm) |>.below hba, (ha.old (Nat.le_refl _)).mono (fun k _ e => Nat.le_of_eq e.symm) |>.below hba, hb.trans (hba.mono hm)⟩
theorem sl_off {P : Program} {α : Type} {E : El P α} {w : World} {G : Nat → Prop} {v : Value} {l : List α} {gd : Nat} (h : Sl E w G v l) (hg : G gd) : Sl E w (fun k => k = gd) v l := h.mono (fun _k _ e => e ▸ hg)
theorem frozen_hold {W W' : World} {p : Addr} {v : Value} (hb : Below W.heap.size W W') (h : W.cell? p = some v) (hf : W.frozen? p = false) : W'.frozen? p = false := (hb.frozen (World.block_lt_of_cell? W _ h)).trans hf
end Go.Proofs.YtpihlglblgbbeaaGreatDoor

namespace Go.Proofs.YtpihlglblgbbeaaGreatDoor
open Go.RowKit Go.Lib Go.Maps Go.Shelf
end Go.Proofs.YtpihlglblgbbeaaGreatDoor

namespace Go.Proofs.YtpihlglblgbbeaaGreatDoor
open Go.RowKit Go.Lib Go.Maps Go.Shelf

/-- One edit of the law, as it is called. -/
theorem dis_upd (v ve vs : Value) (L : List Ver) (plo phi : Int) (es : List GExp) (root : Int) (st : List Asg) (k : Nat) (n first : Int) (w : World) (hv : Sl verE w free v L) (he : Sl expE w free ve es) (hs : Sl asgE w free vs st) (hS : Stg L k n first) (hk : k ≤ 1000) (hf : (L.filter (keepV plo phi es root)).length ≤ 20) (hel : es.length ≤ 1000) (hc : ∀ x ∈ es, In64 x.c.n) :
    Calls Tryz.prog 9 #[v, .agg #[.int .i64 plo, .int .i64 phi], ve, .int .i64 root, vs] w (RetD w ((affV plo phi es root L).map Ver.id) ((affV plo phi es root L).flatMap (partsV plo phi (some (asgV es st))))) := by
  refine (upd_g v ve vs L plo phi es root st w.heap.size w (Nat.le_refl _) (hv.old (Nat.le_refl _)) he (Nat.le_trans hS.len hk) hf hel hc hS.vn hS.vl hs).mono ?_
  rintro _ w2 ⟨vc, va, rfl, h1, h2, hb⟩
  exact ⟨vc, va, rfl, h1.free, h2.free, hb⟩
theorem dis_del (v ve : Value) (L : List Ver) (plo phi : Int) (es : List GExp) (root : Int) (k : Nat) (n first : Int) (w : World) (hv : Sl verE w free v L) (he : Sl expE w free ve es) (hS : Stg L k n first) (hk : k ≤ 1000) (hf : (L.filter (keepV plo phi es root)).length ≤ 20) (hel : es.length ≤ 1000) (hc : ∀ x ∈ es, In64 x.c.n) :
    Calls Tryz.prog 10 #[v, .agg #[.int .i64 plo, .int .i64 phi], ve, .int .i64 root] w (RetD w ((affV plo phi es root L).map Ver.id) ((affV plo phi es root L).flatMap (partsV plo phi none))) := by
  refine (del_g v ve L plo phi es root w.heap.size w (Nat.le_refl _) (hv.old (Nat.le_refl _)) he (Nat.le_trans hS.len hk) hf hel hc hS.vn hS.vl).mono ?_
  rintro _ w2 ⟨vc, va, rfl, h1, h2, hb⟩
  exact ⟨vc, va, rfl, h1.free, h2.free, hb⟩
/-- The edit is applied: nothing stands against it. -/
theorem dis_app (v vc va : Value) (L L2 : List Ver) (plo phi : Int) (es : List GExp) (root : Int) (chg : Option (List GVal → List GVal)) (k : Nat) (n first : Int) (w : World) (hv : Sl verE w free v L) (h1 : Sl intE w free vc ((affV plo phi es root L).map Ver.id)) (h2 : Sl tupE w free va ((affV plo phi es root L).flatMap (partsV plo phi chg))) (hS : Stg L k n first) (hk : k ≤ 100) (hn : 0 ≤ n) (hn2 : n < 1099511627776) (hf : 1 ≤ first) (hf2 : first ≤ 1000000)
    (hchg : ∀ f, chg = some f → ∀ r, RowOk r → RowOk (f r)) (hL2 : L2 = applyL L ((affV plo phi es root L).map Ver.id) ((affV plo phi es root L).flatMap (partsV plo phi chg)) n first) :
    Calls Tryz.prog 8 #[v, .agg #[vc, va], .int .i64 n, .int .i64 first] w fun e w' => ∃ vo, e = .returned (.tuple #[vo, .int .i64 0]) ∧ Sl verE w' free vo L2 ∧ Below w.heap.size w w' := by
  subst hL2
  have hlen := hS.len
  have hcl : ((affV plo phi es root L).map Ver.id).length ≤ 1000 := by
    rw [List.length_map]
    have := affV_len (plo := plo) (phi := phi) (e := es) (pred := root) L
    omega
  have had := parts_many (plo := plo) (phi := phi) (e := es) (pred := root) (chg := chg) hlen
  have hrow := rowOk_parts hchg (plo := plo) (phi := phi) (L := affV plo phi es root L) fun v hv => hS.row v (affV_mem hv).1
  refine (apply_ver v vc va L _ _ n first w hv h1 h2 (by omega) hcl (by omega) (hS.in64 hf2) ?_ hS.vl fun x hx => (hrow x hx).len).mono ?_
  · intro x hx
    obtain ⟨u, hu, rfl⟩ := List.mem_map.1 hx
    exact hS.in64 hf2 u (affV_mem hu).1
  rintro e w' ⟨r, HR, g1, _, hb⟩
  obtain ⟨vo, he, hs⟩ := g1 (HR.out.trans (edit_e plo phi es root chg L n first hS.fit hn hn2 hf (by omega)))
  exact ⟨vo, he, hs, hb⟩

set_option maxHeartbeats 8000000 in
set_option maxRecDepth 100000 in
theorem dis_walk (v : Value) (l : List U6) (c1 c2 c3 x0 x1 x2 x3 : Nat) (w : World) (hv : Sl u6E w free v l) (hok : ∀ x ∈ l, x.ok) (_h1 : c1 < 256) (_h2 : c2 < 256) (_h3 : c3 < 256) (g0 : x0 < 65536) (g1 : x1 < 65536) (g2 : x2 < 65536) (g3 : x3 < 65536) (hT : Pow w) :
    Calls Tryz.prog 3 #[v, .int .u8 (c1 : Int), .int .u8 (c2 : Int), .int .u8 (c3 : Int), .agg #[.int .u16 (x0 : Int), .int .u16 (x1 : Int), .int .u16 (x2 : Int), .int .u16 (x3 : Int)]] w fun e' w' => e' = .returned (.bool true) ∧ Below w.heap.size w w' := by
  have hb0 := below_alloc w (.cells #[.int .u16 (x0 : Int), .int .u16 (x1 : Int), .int .u16 (x2 : Int), .int .u16 (x3 : Int)] 24)
  have CC := Lib.hid (curV_any v l _ (hv.below hb0) hok)
  obtain ⟨xs, hxs⟩ : ∃ xs, xs = l.take 10 := ⟨_, rfl⟩
  rw [← hxs] at CC
  have hx10 : xs.length ≤ 10 := by rw [hxs, List.length_take]; omega
  have HX10 := Lib.hid hx10
  have hbx := World.alloc_heap_new w (.cells #[.int .u16 (x0 : Int), .int .u16 (x1 : Int), .int .u16 (x2 : Int), .int .u16 (x3 : Int)] 24)
  have HB0 := Lib.hid hb0
  have HBX := Lib.hid hbx
  have HT := Lib.hid hT
  obtain ⟨m1, hm1⟩ : ∃ d : Int, d = (c1 : Int) % 20 := ⟨_, rfl⟩
  obtain ⟨m2, hm2⟩ : ∃ d : Int, d = (c2 : Int) % 10 := ⟨_, rfl⟩
  obtain ⟨m3, hm3⟩ : ∃ d : Int, d = (c3 : Int) % 5 := ⟨_, rfl⟩
  have k1 : 0 ≤ m1 ∧ m1 < 20 := by omega
  have k2 : 0 ≤ m2 ∧ m2 < 10 := by omega
  have k3 : 0 ≤ m3 ∧ m3 < 5 := by omega
  have e1 : (c1 : Int) % 20 = m1 := hm1.symm
  have e2 : (c2 : Int) % 10 = m2 := hm2.symm
  have e3 : (c3 : Int) % 5 = m3 := hm3.symm
  have i1 : IntKind.i64.wrap m1 = m1 := IntWalk.i64_in _ (by omega)
  have i2 : IntKind.i64.wrap m2 = m2 := IntWalk.i64_in _ (by omega)
  have i3 : IntKind.i64.wrap m3 = m3 := IntWalk.i64_in _ (by omega)
  have i4 : IntKind.i64.wrap (m1 + 1) = m1 + 1 := IntWalk.i64_in _ (by omega)
  have i5 : IntKind.i64.wrap (m1 + 1 + m2) = m1 + 1 + m2 := IntWalk.i64_in _ (by omega)
  have i6 : IntKind.i64.wrap (m1 + 1 + m2 + m3) = m1 + 1 + m2 + m3 := IntWalk.i64_in _ (by omega)
  have i7 : IntKind.i64.wrap (m1 + 1 + m2 + m3 + 7) = m1 + 1 + m2 + m3 + 7 := IntWalk.i64_in _ (by omega)
  clear hx10 hxs hv hok hb0 hbx hm1 hm2 hm3 hT
  go_enter Tryz.func3, Tryz.ntmps3
  go_wp2_with fail
  refine CC.out.mono ?_
  rintro _ w1 ⟨vl, rfl, hl, hb1⟩
  obtain ⟨L, hL⟩ : ∃ L, L = curL xs := ⟨_, rfl⟩
  rw [← hL] at hl
  have HL := Lib.hid hl.sl
  have HB1 := Lib.hid (HB0.out.trans (hb1.mono HB0.out.size))
  have HBX1 := Lib.hid (box_kept HBX.out hb1)
  have HLL := Lib.hid hL
  clear hl hb1 CC hL HB0 HBX
  go_upto_region 4 with fail
  have hbd : Below w1.heap.size w1 ((w1.alloc (.cells #[.int .i64 m1, .int .i64 (m1 + 1 + m2)] 28)).alloc (.cells #[.int .i64 (m1 + 1 + m2 + m3), .int .i64 (m1 + 1 + m2 + m3 + 7)] 28)) := below_alloc_two w1 _ _
  have hgp := heap_alloc_old' w1 (.cells #[.int .i64 m1, .int .i64 (m1 + 1 + m2)] 28) (.cells #[.int .i64 (m1 + 1 + m2 + m3), .int .i64 (m1 + 1 + m2 + m3 + 7)] 28)
  have hgq := (heap_two w1 (.cells #[.int .i64 m1, .int .i64 (m1 + 1 + m2)] 28) (.cells #[.int .i64 (m1 + 1 + m2 + m3), .int .i64 (m1 + 1 + m2 + m3 + 7)] 28)).2
  obtain ⟨w3, hw3⟩ : ∃ w3, w3 = ((w1.alloc (.cells #[.int .i64 m1, .int .i64 (m1 + 1 + m2)] 28)).alloc (.cells #[.int .i64 (m1 + 1 + m2 + m3), .int .i64 (m1 + 1 + m2 + m3 + 7)] 28)) := ⟨_, rfl⟩
  rw [← hw3] at hbd hgp hgq ⊢
  obtain ⟨plo, hplo⟩ : ∃ q, q = m1 := ⟨_, rfl⟩
  obtain ⟨phi, hphi⟩ : ∃ q, q = m1 + 1 + m2 := ⟨_, rfl⟩
  obtain ⟨qlo, hqlo⟩ : ∃ q, q = m1 + 1 + m2 + m3 := ⟨_, rfl⟩
  obtain ⟨qhi, hqhi⟩ : ∃ q, q = m1 + 1 + m2 + m3 + 7 := ⟨_, rfl⟩
  have HPQ : Hid (pvalid plo phi = true ∧ pvalid qlo qhi = true ∧ phi ≤ qlo) := by
    refine ⟨?_, ?_, ?_⟩
    · rw [pvalid_iff]; omega
    · rw [pvalid_iff]; omega
    · omega
  rw [← hqhi, ← hqlo] at hgq
  rw [← hphi, ← hplo] at hgp
  clear hplo hphi hqlo hqhi
  have HL3 := Lib.hid (HL.out.below hbd)
  have HB3 := Lib.hid (below_keep HB1.out hbd)
  have hx3 := box_kept HBX1.out hbd
  obtain ⟨⟨b0, b1, b2, b3⟩, _, _, _, _⟩ := box_four hx3
  obtain ⟨d0, d1, _, _⟩ := box_two hgp
  obtain ⟨f0, f1, _, _⟩ := box_two hgq
  have HT3 := Lib.hid (HT.out.below HB3.out)
  clear hbd hgp hgq hx3 HBX1 HB1 HL HT hw3 e1 e2 e3 i1 i2 i3 i4 i5 i6 i7 k1 k2 k3
  have hbb : Below w3.heap.size w3 w3 := .refl _ _
  go_cut [14, 15] (fun s16 s17 wx => ∃ ex : List GExp, Own expE wx w3.heap.size s16 ex ∧ s17 = .int .i64 ((ex.length : Int) - 1) ∧ PredOk ex ∧ Hid (Below w3.heap.size w3 wx))
  case first =>
    go_region_held3 (fun W => Below w3.heap.size w3 W ∧ W.cell? ⟨w.heap.size, 0, none⟩ = some (.int .u16 (x0 : Int)) ∧ W.cell? ⟨w.heap.size, 1, none⟩ = some (.int .u16 (x1 : Int)) ∧ W.cell? ⟨w.heap.size, 2, none⟩ = some (.int .u16 (x2 : Int)) ∧ W.cell? ⟨w.heap.size, 3, none⟩ = some (.int .u16 (x3 : Int)))
      ((go_split_ands; refine ⟨?_, ?_, ?_, ?_, ?_⟩ <;> (first | with_reducible assumption | with_reducible exact Below.drew (by assumption) | with_reducible exact cell_drew (by assumption) | with_reducible exact below_keep (by assumption) (by assumption) | with_reducible exact cell_keep (by assumption) (by assumption))))
      (first
        | (go_at_call 6; refine (kinds_any _).mono ?_; rintro e' wK ⟨vk, rfl, hkK, hbK⟩)
        | (go_at_call 5; go_split_ands; refine (pred_any vk x0 x1 x2 x3 g0 g1 g2 g3 _ (by first | exact hkK | exact hkK.below (Below.refl _ _).drew)).mono ?_; rintro e' wP ⟨ve, ex, rfl, hoP, hokP, hbP⟩))
    all_goals (
      go_split_ands
      go_wp2_with fail
      go_meet
      exact ⟨ex, hoP.mono (Nat.le_trans (Nat.le_refl _) hbK.size), rfl, hokP, Lib.hid (by assumption)⟩)
  case rest =>
    obtain ⟨ex, hO, rfl, hPO, HB4⟩ := hcut
    obtain ⟨ao, co, rfl⟩ := hO.shape
    obtain ⟨n, hn⟩ : ∃ n, n = ex.length := ⟨_, rfl⟩
    rw [← hn] at hO ⊢
    have hn4 : n ≤ 4 := by rw [hn]; exact hPO.2
    have p0 := cell_keep HB4.out d0
    have p1 := cell_keep HB4.out d1
    have q0 := cell_keep HB4.out f0
    have q1 := cell_keep HB4.out f1
    have HO := Lib.hid hO
    have HN := Lib.hid hn
    have hnb : ∀ j, (Value.slice ao n co).ownBlock = some j → w3.heap.size ≤ j := fun j hj => (hO.lt j hj).1
    have hlw : w1.heap.size + 1 < w3.heap.size := World.block_lt_of_cell? _ _ f0
    clear hO hn hbb b0 b1 b2 b3 d0 d1 f0 f1
    go_wp2_with fail
    refine (intValue_any 77 _).mono ?_
    rintro _ wV ⟨rfl, hbV⟩
    have HO' := Lib.hid (HO.out.below hbV)
    have HBV := Lib.hid (HB4.out.trans (hbV.mono HB4.out.size))
    have p0 := cell_keep hbV p0
    have p1 := cell_keep hbV p1
    have q0 := cell_keep hbV q0
    have q1 := cell_keep hbV q1
    clear hbV HO HB4
    go_upto_region 6 with (at_builtin; refine wpList_push rfl (.tmp 59) (.tmp 62) 29 rfl expE Tryz.underlying29 w3.heap.size (.slice ao n co) ex rfl HO'.out [⟨1, 0, 0, 0, gint 77⟩] #[.int .i64 1, .int .i64 0, .int .i64 0, .int .i64 0, .int .i64 1, .int .i64 77, .string ⟨#[]⟩] (Els.one rfl) 1 1 rfl rfl (by decide) (by have := HN.out; unfold maxLen; omega) (by have := HN.out; show (_ + 1) * 64 ≤ _; omega) HBV.out.size ?_; intro g cap w5 hP hPa)
    rw [← HN.out]
    obtain ⟨es, hes⟩ : ∃ es, es = ex ++ [(⟨1, 0, 0, 0, gint 77⟩ : GExp)] := ⟨_, rfl⟩
    rw [← hes] at hP
    have hesl : es.length = n + 1 := by rw [hes, List.length_append, HN.out]; rfl
    have hesc : ∀ x ∈ es, In64 x.c.n := by
      rw [hes]
      intro x hx
      rcases List.mem_append.1 hx with h | h
      · exact hPO.1 x h
      · simp at h; subst h; show In64 77; decide
    have HE5 := Lib.hid (hP.own' hesl).sl
    have HB5 : Hid (Below w3.heap.size w3 w5) := Lib.hid (HBV.out.trans hP.below)
    have q0 := hP.cell (fun e => by have := hnb _ e.symm; dsimp at this; omega) q0
    have q1 := hP.cell (fun e => by have := hnb _ e.symm; dsimp at this; omega) q1
    have p0 := hP.cell (fun e => by have := hnb _ e.symm; dsimp at this; omega) p0
    have p1 := hP.cell (fun e => by have := hnb _ e.symm; dsimp at this; omega) p1
    obtain ⟨st, hst⟩ : ∃ st : List Asg, st = [⟨0, (n : Int)⟩] := ⟨_, rfl⟩
    have hn1 : IntKind.i64.wrap ((n : Int) + 1 - 1) = n := by rw [show (n : Int) + 1 - 1 = n by omega]; exact IntWalk.i64_in _ (by omega)
    have hb5 := below_alloc w5 (.cells #[.int .i64 0, .int .i64 (n : Int)] 40)
    have HSA : Hid (Sl asgE (w5.alloc (.cells #[.int .i64 0, .int .i64 (n : Int)] 40)) free (.slice (some ⟨w5.heap.size, 0, none⟩) 1 1) st) := Lib.hid (by rw [hst]; exact Sl.of_block (n := 1) (m := 1) (World.alloc_heap_new w5 _) (Els.one rfl) id rfl (by simp) (by simp))
    have HROW : Hid (∀ f, some (asgV es st) = some f → ∀ r, RowOk r → RowOk (f r)) := fun f hf r hr => by
      cases hf
      rw [hes, hst, HN.out]
      exact rowOk_set ⟨by decide, by decide, by decide⟩ hr
    have hel : es.length ≤ 1000 := by omega
    have HBA : Hid (Below w3.heap.size w3 (w5.alloc (.cells #[.int .i64 0, .int .i64 (n : Int)] 40))) := Lib.hid (HB5.out.trans (hb5.mono HB5.out.size))
    have HEA := Lib.hid (HE5.out.below hb5)
    have HLA := Lib.hid (HL3.out.below HBA.out)
    obtain ⟨r, hr⟩ : ∃ r : Int, r = (n : Int) - 1 := ⟨_, rfl⟩
    rw [← hr] at *
    obtain ⟨wA, hwA⟩ : ∃ wA, wA = w5.alloc (.cells #[.int .i64 0, .int .i64 (n : Int)] 40) := ⟨_, rfl⟩
    have p0 := cell_keep hb5 p0
    have p1 := cell_keep hb5 p1
    have q0 := cell_keep hb5 q0
    have q1 := cell_keep hb5 q1
    rw [← hwA] at HSA HBA HEA HLA p0 p1 q0 q1
    -- the versions
    have hL10 : L.length ≤ 10 := by rw [HLL.out, curL_length]; exact HX10.out
    have S0 : Stg L 10 2 100 := by rw [HLL.out]; exact stg_cur xs HX10.out
    have hcur : Cur L := by rw [HLL.out]; exact curL_rec
    obtain ⟨A1, hA1⟩ : ∃ A, A = applyL L ((affV plo phi es r L).map Ver.id) ((affV plo phi es r L).flatMap (partsV plo phi (some (asgV es st)))) 2 100 := ⟨_, rfl⟩
    obtain ⟨B1, hB1⟩ : ∃ A, A = applyL L ((affV qlo qhi es r L).map Ver.id) ((affV qlo qhi es r L).flatMap (partsV qlo qhi none)) 2 100 := ⟨_, rfl⟩
    obtain ⟨A2, hA2⟩ : ∃ A, A = applyL A1 ((affV qlo qhi es r A1).map Ver.id) ((affV qlo qhi es r A1).flatMap (partsV qlo qhi none)) 3 200 := ⟨_, rfl⟩
    obtain ⟨B2, hB2⟩ : ∃ A, A = applyL B1 ((affV plo phi es r B1).map Ver.id) ((affV plo phi es r B1).flatMap (partsV plo phi (some (asgV es st)))) 3 200 := ⟨_, rfl⟩
    have HD := disjoint_rows plo phi qlo qhi es r (asgV es st) L hcur S0.fit HPQ.out.1 HPQ.out.2.1 HPQ.out.2.2 (by omega)
    rw [← hA1, ← hB1, ← hA2, ← hB2] at HD
    have m1' := parts_many (plo := plo) (phi := phi) (e := es) (pred := r) (chg := some (asgV es st)) hL10
    have m2' := parts_many (plo := qlo) (phi := qhi) (e := es) (pred := r) (chg := none) hL10
    have SA1 := S0.edit (plo := plo) (phi := phi) (e := es) (pred := r) (next := 200) HROW.out (by decide) (by omega)
    have SB1 := S0.edit (plo := qlo) (phi := qhi) (e := es) (pred := r) (chg := none) (next := 200) (fun _ h => by cases h) (by decide) (by omega)
    rw [← hA1] at SA1
    rw [← hB1] at SB1
    have m3' := parts_many (plo := qlo) (phi := qhi) (e := es) (pred := r) (chg := none) SA1.len
    have m4' := parts_many (plo := plo) (phi := phi) (e := es) (pred := r) (chg := some (asgV es st)) SB1.len
    have SA2 := SA1.edit (plo := qlo) (phi := qhi) (e := es) (pred := r) (chg := none) (next := 1000) (fun _ h => by cases h) (by decide) (by omega)
    have SB2 := SB1.edit (plo := plo) (phi := phi) (e := es) (pred := r) (next := 1000) HROW.out (by decide) (by omega)
    have SA1' : Stg A1 40 3 200 := { SA1 with len := by have := SA1.len; omega }
    have SB1' : Stg B1 40 3 200 := { SB1 with len := by have := SB1.len; omega }
    rw [show (2 : Int) + 1 + 1 = 4 from rfl, show (2 : Int) + 1 = 3 from rfl] at *
    rw [← hA2] at SA2
    rw [← hB2] at SB2
    have SA2' : Stg A2 500 4 1000 := { SA2 with len := by have := SA2.len; omega }
    have SB2' : Stg B2 500 4 1000 := { SB2 with len := by have := SB2.len; omega }
    have FA : (A1.filter (keepV qlo qhi es r)).length ≤ 20 := by rw [hA1]; exact second_few (.inl HPQ.out.2.2) hL10
    have FB : (B1.filter (keepV plo phi es r)).length ≤ 20 := by rw [hB1]; exact second_few (.inr HPQ.out.2.2) hL10
    have F0 : ∀ a b, (L.filter (keepV a b es r)).length ≤ 20 := fun a b => Nat.le_trans (List.length_filter_le _ _) (by omega)
    have HSt := Lib.hid (And.intro S0 (And.intro SA1' (And.intro SB1' (And.intro SA2' SB2'))))
    have HF := Lib.hid (And.intro FA (And.intro FB F0))
    have HA := Lib.hid (And.intro hA1 (And.intro hA2 (And.intro hB1 hB2)))
    have HDD := Lib.hid HD
    have HEL := Lib.hid (And.intro hel hesc)
    have HWA := Lib.hid hwA
    clear hA1 hA2 hB1 hB2 HD S0 hcur m1' m2' m3' m4' SA1 SB1 SA2 SB2 SA1' SB1' SA2' SB2' FA FB F0 hwA hel hesc hesl hes hst hP hPa hb5 HE5 HO' HL3 HPQ hPO hL10
    go_upto_region 7 with fail
    rw [← HWA.out]
    clear HWA
    go_wp2_with fail
    refine (dis_upd vl _ _ L plo phi es r st 10 2 100 wA HLA.out HEA.out HSA.out HSt.out.1 (by decide) (HF.out.2.2 _ _) HEL.out.1 HEL.out.2).mono ?_
    rintro _ w7 ⟨vc, va, rfl, hc, ha, hb⟩
    have CA := Lib.hid (dis_app vl vc va L A1 plo phi es r (some (asgV es st)) 10 2 100 w7 (HLA.out.below hb) hc ha HSt.out.1 (by decide) (by decide) (by decide) (by decide) (by decide) HROW.out HA.out.1)
    have HL7 := Lib.hid (HLA.out.below hb)
    have HE7 := Lib.hid (HEA.out.below hb)
    have HS7 := Lib.hid (HSA.out.below hb)
    have HB7 := Lib.hid (below_keep HBA.out hb)
    have p0 := cell_keep hb p0
    have p1 := cell_keep hb p1
    have q0 := cell_keep hb q0
    have q1 := cell_keep hb q1
    clear hc ha hb HLA HEA HSA HBA
    go_wp2_with fail
    refine CA.out.mono ?_
    rintro _ w8 ⟨vA1, rfl, hA1, hb⟩
    have HL8 := Lib.hid (HL7.out.below hb)
    have HE8 := Lib.hid (HE7.out.below hb)
    have HS8 := Lib.hid (HS7.out.below hb)
    have HB8 := Lib.hid (below_keep HB7.out hb)
    have HA1 := Lib.hid hA1
    have p0 := cell_keep hb p0
    have p1 := cell_keep hb p1
    have q0 := cell_keep hb q0
    have q1 := cell_keep hb q1
    clear hb hA1 HL7 HE7 HS7 HB7 CA
    go_wp2_with fail
    refine (dis_del vA1 _ A1 qlo qhi es r 40 3 200 w8 HA1.out HE8.out HSt.out.2.1 (by decide) HF.out.1 HEL.out.1 HEL.out.2).mono ?_
    rintro _ w9 ⟨vc, va, rfl, hc, ha, hb⟩
    have CA := Lib.hid (dis_app vA1 vc va A1 A2 qlo qhi es r none 40 3 200 w9 (HA1.out.below hb) hc ha HSt.out.2.1 (by decide) (by decide) (by decide) (by decide) (by decide) (fun _ h => by cases h) HA.out.2.1)
    have HL9 := Lib.hid (HL8.out.below hb)
    have HE9 := Lib.hid (HE8.out.below hb)
    have HS9 := Lib.hid (HS8.out.below hb)
    have HB9 := Lib.hid (below_keep HB8.out hb)
    have p0 := cell_keep hb p0
    have p1 := cell_keep hb p1
    have q0 := cell_keep hb q0
    have q1 := cell_keep hb q1
    clear hc ha hb HL8 HE8 HS8 HB8 HA1
    go_wp2_with fail
    refine CA.out.mono ?_
    rintro _ w10 ⟨vA2, rfl, hA2, hb⟩
    have HL10 := Lib.hid (HL9.out.below hb)
    have HE10 := Lib.hid (HE9.out.below hb)
    have HS10 := Lib.hid (HS9.out.below hb)
    have HB10 := Lib.hid (below_keep HB9.out hb)
    have HA10 := Lib.hid hA2
    have p0 := cell_keep hb p0
    have p1 := cell_keep hb p1
    have q0 := cell_keep hb q0
    have q1 := cell_keep hb q1
    clear hb hA2 HL9 HE9 HS9 HB9 CA
    go_wp2_with fail
    refine (dis_del vl _ L qlo qhi es r 10 2 100 w10 HL10.out HE10.out HSt.out.1 (by decide) (HF.out.2.2 _ _) HEL.out.1 HEL.out.2).mono ?_
    rintro _ w11 ⟨vc, va, rfl, hc, ha, hb⟩
    have CA := Lib.hid (dis_app vl vc va L B1 qlo qhi es r none 10 2 100 w11 (HL10.out.below hb) hc ha HSt.out.1 (by decide) (by decide) (by decide) (by decide) (by decide) (fun _ h => by cases h) HA.out.2.2.1)
    have HE11 := Lib.hid (HE10.out.below hb)
    have HS11 := Lib.hid (HS10.out.below hb)
    have HB11 := Lib.hid (below_keep HB10.out hb)
    have HA11 := Lib.hid (HA10.out.below hb)
    have p0 := cell_keep hb p0
    have p1 := cell_keep hb p1
    clear hc ha hb HL10 HE10 HS10 HB10 HA10 q0 q1
    go_wp2_with fail
    refine CA.out.mono ?_
    rintro _ w12 ⟨vB1, rfl, hB1, hb⟩
    have HE12 := Lib.hid (HE11.out.below hb)
    have HS12 := Lib.hid (HS11.out.below hb)
    have HB12 := Lib.hid (below_keep HB11.out hb)
    have HA12 := Lib.hid (HA11.out.below hb)
    have HB1 := Lib.hid hB1
    have p0 := cell_keep hb p0
    have p1 := cell_keep hb p1
    clear hb hB1 HE11 HS11 HB11 HA11 CA
    go_wp2_with fail
    refine (dis_upd vB1 _ _ B1 plo phi es r st 40 3 200 w12 HB1.out HE12.out HS12.out HSt.out.2.2.1 (by decide) HF.out.2.1 HEL.out.1 HEL.out.2).mono ?_
    rintro _ w13 ⟨vc, va, rfl, hc, ha, hb⟩
    have CA := Lib.hid (dis_app vB1 vc va B1 B2 plo phi es r (some (asgV es st)) 40 3 200 w13 (HB1.out.below hb) hc ha HSt.out.2.2.1 (by decide) (by decide) (by decide) (by decide) (by decide) HROW.out HA.out.2.2.2)
    have HB13 := Lib.hid (below_keep HB12.out hb)
    have HA13 := Lib.hid (HA12.out.below hb)
    clear hc ha hb HE12 HS12 HB12 HA12 HB1 p0 p1
    go_wp2_with fail
    refine CA.out.mono ?_
    rintro _ w14 ⟨vB2, rfl, hB2, hb⟩
    have HB14 := Lib.hid (below_keep HB13.out hb)
    have HA14 := Lib.hid (HA13.out.below hb)
    have HV14 := Lib.hid hB2
    clear hb hB2 HB13 HA13 CA
    go_wp2_with fail
    refine (awake_any _).mono ?_
    rintro _ w15 ⟨rfl, hb⟩
    have HB15 := Lib.hid (below_keep HB14.out hb)
    have HV15 := Lib.hid (HV14.out.below hb)
    have HC1 := Lib.hid (atT_any _ A2 3 w15 (HA14.out.below hb) (by have := HSt.out.2.2.2.1.len; omega))
    clear hb HB14 HV14 HA14
    go_wp2_with fail
    refine HC1.out.mono ?_
    rintro _ w16 ⟨vm, rfl, hOm, hb⟩
    have HB16 := Lib.hid (below_keep HB15.out hb)
    have HM16 := Lib.hid hOm.sl
    have HC2 := Lib.hid (atT_any _ B2 3 w16 (HV15.out.below hb) (by have := HSt.out.2.2.2.2.len; omega))
    clear hOm hb HC1 HB15 HV15
    go_wp2_with fail
    refine HC2.out.mono ?_
    rintro _ w17 ⟨vo, rfl, hOo, hb⟩
    have HB17 := Lib.hid (below_keep HB16.out hb)
    have HKE : ∀ (X : List Ver) (first : Int), Stg X 500 4 first → ∀ x ∈ atT X 3, Keyable x.row := fun X first h x hx => by
      unfold atT at hx
      obtain ⟨u, hu, rfl⟩ := List.mem_map.1 hx
      exact (h.row u (List.mem_filter.1 hu).1).keyable
    have HEQ := Lib.hid (equiv_any _ _ (atT A2 3) (atT B2 3) w17 (HM16.out.below hb) hOo.sl (Nat.le_trans (atT_len _ _) (by have := HSt.out.2.2.2.1.len; omega)) (Nat.le_trans (atT_len _ _) (by have := HSt.out.2.2.2.2.len; omega)) (HKE _ _ HSt.out.2.2.2.1) (HKE _ _ HSt.out.2.2.2.2) (HT3.out.below HB17.out))
    clear hOo hb HC2 HM16 HB16 HKE
    go_wp2_with fail
    refine HEQ.out.mono ?_
    rintro _ w18 ⟨q, HQ, rfl, hb⟩
    have hq : q = true := HQ.out.2 HDD.out
    subst hq
    have HB18 := Lib.hid (HB3.out.trans ((below_keep HB17.out hb).mono HB3.out.size))
    clear hb HEQ HB17 HQ
    go_wp2_with fail
    go_ret
    exact ⟨rfl, HB18.out⟩
end Go.Proofs.YtpihlglblgbbeaaGreatDoor

namespace Go.Proofs.YtpihlglblgbbeaaGreatDoor
open Go.ChangeShapes Go.WideShapes Go.ChangeAt Go.RowKit

theorem own : ownKnob Tryz.prog.godebug = none := by kernel_rfl
theorem laidOut : laidOutB Tryz.prog = true := by kernel_rfl

theorem trodAll_below {H : Type} {enc : TypeId × Value → H} {W W' : World} (hb : Below W.heap.size W W') : ∀ (ts : List TypeId) (vs : List Value) (ds : List (DataW H)) (ps : List MemPlace),
    (∀ t ∈ ts, Tryz.prog.readableRec t = true ∧ t < Tryz.prog.types.size) → DataW.TrodAll enc Tryz.prog W 0 (fun _ => true) true ts vs ds ps → (∀ x ∈ ps, x.block < W.heap.size) →
    DataW.TrodAll enc Tryz.prog W' 0 (fun b => decide (b < W.heap.size)) true ts vs ds ps := by
  intro ts
  induction ts with
  | nil =>
    intro vs ds ps _ h _
    cases vs <;> cases ds <;> simp [DataW.TrodAll] at h ⊢
    exact h
  | cons t ts ih =>
    intro vs ds ps hr h hlt
    cases vs with
    | nil => simp [DataW.TrodAll] at h
    | cons v vs =>
      cases ds with
      | nil => simp [DataW.TrodAll] at h
      | cons d ds =>
        obtain ⟨p, q, h1, h2, rfl⟩ := h
        have ht := hr t (List.mem_cons_self ..)
        exact ⟨p, q, Below.trod laidOut ht.1 ht.2 h1 hb (fun x hx => hlt x (List.mem_append_left _ hx)), ih vs ds q (fun t' h' => hr t' (List.mem_cons_of_mem _ h')) h2 (fun x hx => hlt x (List.mem_append_right _ hx)), rfl⟩

/-- The post of a law's row. -/
theorem law_post {H : Type} {enc : TypeId × Value → H} {f : Func} {s : ChangeSpec} {W W' : World} {args : Array Value} {ds gs : List (DataW H)} {before : List MemPlace}
    (hvars : s.vars = []) (hres : f.resultTypes = #[4]) (hr : ∀ t ∈ f.params.toList, Tryz.prog.readableRec t = true ∧ t < Tryz.prog.types.size)
    (hs : s.fn H (ds ++ gs) = { results := [.lit (.bool true)], args := ds })
    (hW : DataW.Whole enc Tryz.prog f.params.toList s.vars false W args.toList ds gs before) (hb : Below W.heap.size W W') :
    s.post enc Tryz.prog f false true false false W args (.bool true) W' := by
  have hlt : ∀ p ∈ before, p.block < W.heap.size := fun p hp => hW.lt p hp
  obtain ⟨p, q, hA, hV, hpq, hz, hn⟩ := id hW
  have hq : q = [] := by
    rw [hvars] at hV
    cases gs with
    | nil => exact hV
    | cons _ _ => simp [DataW.TrodVars] at hV
  subst hq
  rw [List.append_nil] at hpq
  refine ⟨ds, gs, before, [], p, [], hW, ?_, ?_, ?_, World.keptBut_mono (fun x hx => ⟨hx, ?_⟩) (hb.frame (· ∈ before)), fun h => by cases h⟩
  · rw [hs, hres]
    exact trodAll_cons_mk (shut_bool Tryz.underlying4 _) trodAll_mk0
  · rw [hs]
    exact trodAll_below hb _ _ _ _ hr hA (fun x hx => hlt x (by rw [hpq]; exact hx))
  · rw [hs, hvars]; rfl
  · rw [hpq] at hx; exact .inr (.inl hx)

/-- A slice whose elements (each of 'size' cells) read as the elements of a list. -/
def SliceOf {α : Type} (w : World) (size : Nat) (R : World → α → List Value → Prop) (v : Value) (l : List α) : Prop :=
  l.length ≤ 9223372036854775807 ∧ ∃ (a : Option Addr) (c : Nat), v = .slice a l.length c ∧ l.length ≤ c ∧
    (0 < l.length → ∃ b o, a = some ⟨b, o, none⟩ ∧ ∀ i x, l[i]? = some x → ∃ cs, cs.length = size ∧ R w x cs ∧ ∀ j u, cs[j]? = some u → w.cell? ⟨b, o + i * size + j, none⟩ = some u)

theorem open_sliceOf {H : Type} {enc : TypeId × Value → H} {P : Program} {w : World} {spare : Nat → Bool} {t e : TypeId} {v : Value} {d : DataW H} {ps : List MemPlace} {α : Type} {R : World → α → List Value → Prop} {size : Nat} {base : Nat}
    (ht : P.underlying t = some (.slice e)) (hce : P.cellsOf e = size) (hsz : 0 < size) (hv : Value.okWide P w .any base t v)
    (hel : ∀ n cs y, DataW.trod enc P w 0 spare true n e cs = some y → cs.length = size → ∃ x, R w x cs)
    (h : DataW.Trod enc P w 0 spare true t v d ps) : ∃ l : List α, SliceOf w size R v l := by
  obtain ⟨a0, len, cap, rfl⟩ := okWide_slice ht hv
  obtain ⟨fuel, hf⟩ := h
  rcases Go.Deep.open_slice ht hf with ⟨hcs, _⟩ | ⟨a, len', cap', m, n, D, Pl, hcs, _, hl, hm, hmm, _, hx⟩
  · simp [Value.cells] at hcs
    obtain ⟨rfl, rfl, rfl⟩ := hcs
    exact ⟨[], by simp, none, 0, rfl, by simp, by simp⟩
  · simp [Value.cells] at hcs
    obtain ⟨rfl, rfl, rfl⟩ := hcs
    have hlm : len ≤ m := by rw [hmm]; split <;> omega
    have each : ∀ i : Fin len, ∃ x cs, cs.length = size ∧ R w x cs ∧ ∀ j u, cs[j]? = some u → w.cell? ((a.add (i * size)).add j) = some u := by
      intro i
      obtain ⟨cs, h1, h2⟩ := hx i (by omega)
      rw [hce] at h1
      obtain ⟨_, hlen, hcell⟩ := World.cells?_some h1
      obtain ⟨x, hxr⟩ := hel _ _ _ h2 hlen
      refine ⟨x, cs, hlen, hxr, fun j u hu => ?_⟩
      have hj : j < size := by rw [← hlen]; exact (List.getElem?_eq_some_iff.1 hu).1
      rw [hcell j hj]; exact hu
    let f : Fin len → α := fun i => Classical.choose (each i)
    have hf' : ∀ i : Fin len, ∃ cs, cs.length = size ∧ R w (f i) cs ∧ ∀ j u, cs[j]? = some u → w.cell? ((a.add (i * size)).add j) = some u := fun i => Classical.choose_spec (each i)
    have hlen : (List.ofFn f).length = len := List.length_ofFn
    refine ⟨List.ofFn f, by rw [hlen]; unfold maxLen at hm; omega, some a, cap, by rw [hlen], by rw [hlen]; exact hl, fun hpos => ?_⟩
    rw [hlen] at hpos
    obtain ⟨b, o, spot⟩ := a
    have hspot : spot = none := by
      obtain ⟨cs, h1, _⟩ := hx 0 (by omega)
      rw [hce] at h1
      obtain ⟨_, hl0, hcell⟩ := World.cells?_some h1
      have h2 := hcell 0 hsz
      rw [List.getElem?_eq_getElem (by omega)] at h2
      have h3 : w.cell? ⟨b, o, spot⟩ = some (cs[0]'(by omega)) := by simpa [Addr.add] using h2
      cases spot with
      | none => rfl
      | some s => simp [World.cell?] at h3; split at h3 <;> simp at h3
    subst hspot
    refine ⟨b, o, rfl, fun i x hi => ?_⟩
    have hil : i < len := by rw [← hlen]; exact (List.getElem?_eq_some_iff.1 hi).1
    obtain ⟨cs, h1, h2, h3⟩ := hf' ⟨i, hil⟩
    have hxe : x = f ⟨i, hil⟩ := by
      rw [List.getElem?_ofFn] at hi
      simp [hil] at hi
      exact hi.symm
    refine ⟨cs, h1, by rw [hxe]; exact h2, fun j u hu => ?_⟩
    have := h3 j u hu
    rw [Go.Deep.add_add] at this
    rw [Addr.add_lit] at this
    rw [Nat.add_assoc]; exact this

mutual
/-- The cells of a datum of numbers. -/
def litCells : DataW Unit → List Value
  | .lit (.int k n) => [.int k n]
  | .agg parts => litCellsAll parts
  | _ => []
def litCellsAll : List (DataW Unit) → List Value
  | [] => []
  | d :: r => litCells d ++ litCellsAll r
end
end Go.Proofs.YtpihlglblgbbeaaGreatDoor

namespace Go.Proofs.YtpihlglblgbbeaaGreatDoor
open Go.ChangeShapes Go.WideShapes Go.ChangeAt Go.RowKit
open Go.ChangeMaps (open_string)

theorem open_sl_trod {H : Type} {enc : TypeId × Value → H} {P : Program} {w : World} {spare : Nat → Bool} {t e : TypeId} {cs0 : List Value} {y0 : DataW H × List MemPlace} {n0 : Nat} {α : Type} (E : El P α) (Pr : α → Prop)
    (ht : P.underlying t = some (.slice e)) (hce : P.cellsOf e = E.size)
    (hel : ∀ n cs y, DataW.trod enc P w 0 spare true n e cs = some y → cs.length = E.size → ∃ x, E.is w free x cs ∧ Pr x)
    (h : DataW.trod enc P w 0 spare true n0 t cs0 = some y0) : ∃ (v : Value) (l : List α), cs0 = [v] ∧ Sl E w free v l ∧ ∀ x ∈ l, Pr x := by
  rcases Go.Deep.open_slice ht h with ⟨hcs, _⟩ | ⟨a, len, cap, m, n, D, Pl, hcs, _, hl, hm, hmm, _, hx⟩
  · exact ⟨_, [], hcs, Sl.nil _ _ _ _ _, by simp⟩
  · have hlm : len ≤ m := by rw [hmm]; split <;> omega
    have hsz := E.pos
    have each : ∀ i : Fin len, ∃ x cs, cs.length = E.size ∧ (E.is w free x cs ∧ Pr x) ∧ ∀ j u, cs[j]? = some u → w.cell? ((a.add (i * E.size)).add j) = some u := by
      intro i
      obtain ⟨cs, h1, h2⟩ := hx i (by omega)
      rw [hce] at h1
      obtain ⟨_, hlen, hcell⟩ := World.cells?_some h1
      obtain ⟨x, hxr⟩ := hel _ _ _ h2 hlen
      refine ⟨x, cs, hlen, hxr, fun j u hu => ?_⟩
      have hj : j < E.size := by rw [← hlen]; exact (List.getElem?_eq_some_iff.1 hu).1
      rw [hcell j hj]; exact hu
    let f : Fin len → α := fun i => Classical.choose (each i)
    have hf' : ∀ i : Fin len, ∃ cs, cs.length = E.size ∧ (E.is w free (f i) cs ∧ Pr (f i)) ∧ ∀ j u, cs[j]? = some u → w.cell? ((a.add (i * E.size)).add j) = some u := fun i => Classical.choose_spec (each i)
    have hlen : (List.ofFn f).length = len := List.length_ofFn
    refine ⟨_, List.ofFn f, hcs, ⟨by rw [hlen]; unfold maxLen at hm; omega, some a, cap, by rw [hlen], by rw [hlen]; exact hl, fun hpos => ?_⟩, fun x hx => ?_⟩
    · rw [hlen] at hpos
      obtain ⟨b, o, spot⟩ := a
      have hspot : spot = none := by
        obtain ⟨cs, h1, _⟩ := hx 0 (by omega)
        rw [hce] at h1
        obtain ⟨_, hl0, hcell⟩ := World.cells?_some h1
        have h2 := hcell 0 hsz
        rw [List.getElem?_eq_getElem (by omega)] at h2
        have h3 : w.cell? ⟨b, o, spot⟩ = some (cs[0]'(by omega)) := by simpa [Addr.add] using h2
        cases spot with
        | none => rfl
        | some s => simp [World.cell?] at h3; split at h3 <;> simp at h3
      subst hspot
      refine ⟨b, o, rfl, id, fun i x hi => ?_⟩
      have hil : i < len := by rw [← hlen]; exact (List.getElem?_eq_some_iff.1 hi).1
      obtain ⟨cs, h1, h2, h3⟩ := hf' ⟨i, hil⟩
      have hxe : x = f ⟨i, hil⟩ := by
        rw [List.getElem?_ofFn] at hi
        simp [hil] at hi
        exact hi.symm
      refine ⟨cs, by rw [hxe]; exact h2.1, fun j u hu => ?_⟩
      have := h3 j u hu
      rw [Go.Deep.add_add] at this
      rw [Addr.add_lit] at this
      rw [Nat.add_assoc]; exact this
    · obtain ⟨i, rfl⟩ := List.mem_ofFn.1 hx
      exact (hf' i).choose_spec.2.1.2
theorem open_sl {H : Type} {enc : TypeId × Value → H} {P : Program} {w : World} {spare : Nat → Bool} {t e : TypeId} {v : Value} {d : DataW H} {ps : List MemPlace} {α : Type} {base : Nat} (E : El P α) (Pr : α → Prop)
    (ht : P.underlying t = some (.slice e)) (hce : P.cellsOf e = E.size) (hv : Value.okWide P w .any base t v)
    (hel : ∀ n cs y, DataW.trod enc P w 0 spare true n e cs = some y → cs.length = E.size → ∃ x, E.is w free x cs ∧ Pr x)
    (h : DataW.Trod enc P w 0 spare true t v d ps) : ∃ l : List α, Sl E w free v l ∧ ∀ x ∈ l, Pr x := by
  obtain ⟨a0, len, cap, rfl⟩ := okWide_slice ht hv
  obtain ⟨fuel, hf⟩ := h
  obtain ⟨v, l, hcs, hl⟩ := open_sl_trod E Pr ht hce hel hf
  simp [Value.cells] at hcs
  subst hcs
  exact ⟨l, hl⟩
theorem cells_int : Tryz.prog.cellsOf 3 = 1 := by kernel_rfl
theorem cells_i64 : Tryz.prog.cellsOf 2 = 1 := by kernel_rfl
theorem cells_string : Tryz.prog.cellsOf 9 = 1 := by kernel_rfl
theorem cells_val : Tryz.prog.cellsOf 35 = 3 := by kernel_rfl
/-- An int. -/
def Is64 (x : Int) : Prop := -9223372036854775808 ≤ x ∧ x ≤ 9223372036854775807
section
variable {H : Type} {enc : TypeId × Value → H} {w : World} {spare : Nat → Bool}
theorem is64_of {n : Int} (h : (Lit.int .i64 n).wf = true) : Is64 n := by
  simp [Lit.wf, IntKind.min, IntKind.max, IntKind.signed, IntKind.bits] at h
  unfold Is64
  omega
theorem open_int_el (n : Nat) (cs : List Value) (y : DataW H × List MemPlace) (h : DataW.trod enc Tryz.prog w 0 spare true n 3 cs = some y) (hl : cs.length = 1) : ∃ x, intE.is w free x cs ∧ Is64 x := by
  match cs, hl with
  | [c0], _ =>
    obtain ⟨k0, e0, _, hw⟩ := DataW.trod_int Tryz.underlying3 h
    simp at e0
    subst e0
    exact ⟨k0, rfl, is64_of hw⟩
/-- A value whose numbers and text are a machine's. -/
def IsVal (x : GVal) : Prop := Is64 x.kind ∧ Is64 x.n ∧ x.s.size ≤ maxLen
set_option maxRecDepth 10000 in
theorem open_val_el (n : Nat) (cs : List Value) (y : DataW H × List MemPlace) (h : DataW.trod enc Tryz.prog w 0 spare true n 35 cs = some y) (hl : cs.length = 3) : ∃ x, valE.is w free x cs ∧ IsVal x := by
  obtain ⟨xs, k, hk, hxy, _, hxl, hf⟩ := DataW.trod_struct Tryz.underlying35 h
  match cs, hl with
  | [c0, c1, c2], _ =>
    match xs, hxl with
    | [y0, y1, y2], _ =>
      have g0 := hf 0 _ rfl
      have g1 := hf 1 _ rfl
      have g2 := hf 2 _ rfl
      simp [cells_int, cells_i64, cells_string] at g0 g1 g2
      obtain ⟨k0, e0, _, w0⟩ := DataW.trod_int Tryz.underlying3 g0
      obtain ⟨k1, e1, _, w1⟩ := DataW.trod_int Tryz.underlying2 g1
      obtain ⟨s, e2, _, hs⟩ := DataW.trod_string Tryz.underlying9 g2
      simp at e0 e1 e2
      subst e0 e1 e2
      exact ⟨⟨k0, k1, s⟩, rfl, is64_of w0, is64_of w1, hs⟩
set_option maxRecDepth 10000 in
/-- An argument that is a value. -/
theorem open_valarg {base : Nat} {v : Value} {d : DataW H} {ps : List MemPlace} (hv : Value.okWide Tryz.prog w .any base 35 v) (h : DataW.Trod enc Tryz.prog w 0 spare true 35 v d ps) : ∃ x : GVal, v = aggG x ∧ IsVal x := by
  obtain ⟨cs, rfl, hs⟩ := okWide_struct Tryz.underlying35 hv
  obtain ⟨fuel, hf⟩ := h
  obtain ⟨x, hx, hp⟩ := open_val_el _ _ _ hf (by rw [cells_val] at hs; simpa [Value.cells] using hs)
  refine ⟨x, ?_, hp⟩
  have e : cs.toList = valOf x := hx
  obtain ⟨l⟩ := cs
  simp at e
  subst e
  rfl
end
end Go.Proofs.YtpihlglblgbbeaaGreatDoor

namespace Go.Proofs.YtpihlglblgbbeaaGreatDoor
open Go.ChangeShapes Go.WideShapes Go.ChangeAt Go.RowKit

theorem pow_type : (Tryz.prog.globals[1]?).map (·.type) = some 187 := by kernel_rfl
theorem cells_u64 : Tryz.prog.cellsOf 156 = 1 := by kernel_rfl
theorem cells_pow : Tryz.prog.cellsOf 187 = 20 := by kernel_rfl
/-- What the rows list. -/
abbrev laidList : List (String × DataW Unit) := [("math/bits.deBruijn32tab", Rows.laid_math_bits_deBruijn32tab), ("math/bits.deBruijn64tab", Rows.laid_math_bits_deBruijn64tab), ("internal/strconv.uint64pow10", Rows.laid_internal_strconv_uint64pow10)]
theorem pow_data : (Rows.laid_internal_strconv_uint64pow10 : DataW Unit) = Lib.tabData .u64 Lib.pow10Tab := by kernel_rfl
theorem pow_of_laid {W : World} (h : laidMet Tryz.prog laidList W) : Pow W := by
  have h1 := laidMet.tail (laidMet.tail h)
  rw [pow_data] at h1
  exact Lib.tabIs_of_head pow_named pow_type Tryz.underlying187 Tryz.underlying156 cells_u64 cells_pow h1
/-- Block n's cells replaced. -/
def layAt (w : World) (n : Nat) (cs : Array Value) : World :=
  { w with heap := w.heap.modify n fun
      | .cells _ t frozen => .cells cs t frozen
      | o => o }
noncomputable def laidWorld (os : Os) : World :=
  let w0 := World.holding Tryz.prog os ⟨#[], #[], []⟩
  let w3 := layAt w0 2 (litCells Rows.laid_math_bits_deBruijn32tab).toArray
  let w4 := layAt w3 3 (litCells Rows.laid_math_bits_deBruijn64tab).toArray
  layAt w4 1 (litCells Rows.laid_internal_strconv_uint64pow10).toArray
theorem laid_met (os : Os) (args : Array Value) : laidMet Tryz.prog laidList ((laidWorld os).forCall (fun _ _ => 0) ⟨#[], args, []⟩).memory :=
  laidMet_of_run' 8 (by kernel_rfl) (by kernel_rfl)
end Go.Proofs.YtpihlglblgbbeaaGreatDoor

namespace Go.Proofs.YtpihlglblgbbeaaGreatDoor
open Go.ChangeShapes Go.WideShapes Go.ChangeAt Go.RowKit
open Go.ChangeMaps (open_string)

theorem cells_per : Tryz.prog.cellsOf 28 = 2 := by kernel_rfl
theorem cells_tup : Tryz.prog.cellsOf 65 = 4 := by kernel_rfl
theorem cells_ints : Tryz.prog.cellsOf 32 = 1 := by kernel_rfl
theorem cells_vals : Tryz.prog.cellsOf 55 = 1 := by kernel_rfl
section
variable {H : Type} {enc : TypeId × Value → H} {w : World} {spare : Nat → Bool}
/-- A tuple whose numbers are a machine's. -/
def IsTup (x : Tup) : Prop := Is64 x.lo ∧ Is64 x.hi ∧ (∀ v ∈ x.vals, IsVal v) ∧ ∀ i ∈ x.lin, Is64 i
set_option maxRecDepth 10000 in
theorem open_tup_el (n : Nat) (cs : List Value) (y : DataW H × List MemPlace) (h : DataW.trod enc Tryz.prog w 0 spare true n 65 cs = some y) (hl : cs.length = 4) : ∃ x, tupE.is w free x cs ∧ IsTup x := by
  obtain ⟨xs, k, hk, hxy, _, hxl, hf⟩ := DataW.trod_struct Tryz.underlying65 h
  match cs, hl with
  | [c0, c1, c2, c3], _ =>
    match xs, hxl with
    | [y0, y1, y2], _ =>
      have g0 := hf 0 _ rfl
      have g1 := hf 1 _ rfl
      have g2 := hf 2 _ rfl
      simp [cells_ints, cells_vals, cells_per] at g0 g1 g2
      obtain ⟨v, lv, e0, hv, pv⟩ := open_sl_trod valE IsVal Tryz.underlying55 cells_val open_val_el g0
      obtain ⟨u, lu, e2, hu, pu⟩ := open_sl_trod intE Is64 Tryz.underlying32 cells_int open_int_el g2
      obtain ⟨xs1, k1, _, _, _, hxl1, hf1⟩ := DataW.trod_struct Tryz.underlying28 g1
      match xs1, hxl1 with
      | [z0, z1], _ =>
        have f0 := hf1 0 _ rfl
        have f1 := hf1 1 _ rfl
        simp [cells_int] at f0 f1
        obtain ⟨k0, e3, _, w0⟩ := DataW.trod_int Tryz.underlying3 f0
        obtain ⟨k1, e4, _, w1⟩ := DataW.trod_int Tryz.underlying3 f1
        simp at e0 e2 e3 e4
        subst e0 e2 e3 e4
        exact ⟨⟨lv, k0, k1, lu⟩, ⟨_, _, rfl, hv, hu⟩, is64_of w0, is64_of w1, pv, pu⟩
end
end Go.Proofs.YtpihlglblgbbeaaGreatDoor

namespace Go.Proofs.YtpihlglblgbbeaaGreatDoor
open Go.ChangeShapes Go.WideShapes Go.ChangeAt Go.RowKit

theorem cells_w16 : Tryz.prog.cellsOf 23 = 1 := by kernel_rfl
theorem cells_u6 : Tryz.prog.cellsOf 71 = 6 := by kernel_rfl
theorem w16_of {n : Int} (h : (Lit.int .u16 n).wf = true) : ∃ k : Nat, n = (k : Int) ∧ k < 65536 := by
  simp [Lit.wf, IntKind.min, IntKind.max, IntKind.signed, IntKind.bits] at h
  obtain ⟨k, rfl⟩ := Int.eq_ofNat_of_zero_le h.1
  exact ⟨k, rfl, by omega⟩
theorem w8_of {n : Int} (h : (Lit.int .u8 n).wf = true) : ∃ k : Nat, n = (k : Int) ∧ k < 256 := by
  simp [Lit.wf, IntKind.min, IntKind.max, IntKind.signed, IntKind.bits] at h
  obtain ⟨k, rfl⟩ := Int.eq_ofNat_of_zero_le h.1
  exact ⟨k, rfl, by omega⟩
section
variable {H : Type} {enc : TypeId × Value → H} {w : World} {spare : Nat → Bool}
set_option maxRecDepth 100000 in
theorem open_b {base : Nat} {v : Value} {d : DataW H} {ps : List MemPlace} (hv : Value.okWide Tryz.prog w .any base 4 v) (_h : DataW.Trod enc Tryz.prog w 0 spare true 4 v d ps) : ∃ b : Bool, v = .bool b := by
  exact okWide_bool Tryz.underlying4 hv
set_option maxRecDepth 10000 in
theorem open_u6_el (n : Nat) (cs : List Value) (y : DataW H × List MemPlace) (h : DataW.trod enc Tryz.prog w 0 spare true n 71 cs = some y) (hl : cs.length = 6) : ∃ x, u6E.is w free x cs ∧ x.ok := by
  obtain ⟨xs, k, hk, hxy, _, hxl, hf⟩ := DataW.trod_array Tryz.underlying71 h
  match cs, hl with
  | [c0, c1, c2, c3, c4, c5], _ =>
    match xs, hxl with
    | [y0, y1, y2, y3, y4, y5], _ =>
      have g0 := hf 0 (by omega)
      have g1 := hf 1 (by omega)
      have g2 := hf 2 (by omega)
      have g3 := hf 3 (by omega)
      have g4 := hf 4 (by omega)
      have g5 := hf 5 (by omega)
      simp [cells_w16] at g0 g1 g2 g3 g4 g5
      obtain ⟨k0, e0, _, w0⟩ := DataW.trod_int Tryz.underlying23 g0
      obtain ⟨k1, e1, _, w1⟩ := DataW.trod_int Tryz.underlying23 g1
      obtain ⟨k2, e2, _, w2⟩ := DataW.trod_int Tryz.underlying23 g2
      obtain ⟨k3, e3, _, w3⟩ := DataW.trod_int Tryz.underlying23 g3
      obtain ⟨k4, e4, _, w4⟩ := DataW.trod_int Tryz.underlying23 g4
      obtain ⟨k5, e5, _, w5⟩ := DataW.trod_int Tryz.underlying23 g5
      simp at e0 e1 e2 e3 e4 e5
      subst e0 e1 e2 e3 e4 e5
      obtain ⟨n0, rfl, b0⟩ := w16_of w0
      obtain ⟨n1, rfl, b1⟩ := w16_of w1
      obtain ⟨n2, rfl, b2⟩ := w16_of w2
      obtain ⟨n3, rfl, b3⟩ := w16_of w3
      obtain ⟨n4, rfl, b4⟩ := w16_of w4
      obtain ⟨n5, rfl, b5⟩ := w16_of w5
      exact ⟨⟨n0, n1, n2, n3, n4, n5⟩, rfl, b0, b1, b2, b3, b4, b5⟩
end
end Go.Proofs.YtpihlglblgbbeaaGreatDoor

namespace Go.Proofs.YtpihlglblgbbeaaGreatDoor
open Go.ChangeShapes Go.WideShapes Go.ChangeAt Go.RowKit

theorem okWide_arr {P : Program} {w : World} {r : Reach} {base : Nat} {t e : TypeId} {n : Nat} {v : Value} (ht : P.underlying t = some (.array n e)) (h : Value.okWide P w r base t v) : ∃ cs, v = .agg cs ∧ cs.size = P.cellsOf t := by
  simp only [Value.okWide, ht] at h
  obtain ⟨cs, h1, h2, _⟩ := h
  exact ⟨cs, h1, h2⟩
theorem cells_u4 : Tryz.prog.cellsOf 24 = 4 := by kernel_rfl
section
variable {H : Type} {enc : TypeId × Value → H} {w : World} {spare : Nat → Bool}
set_option maxRecDepth 10000 in
theorem open_u4_el (n : Nat) (cs : List Value) (y : DataW H × List MemPlace) (h : DataW.trod enc Tryz.prog w 0 spare true n 24 cs = some y) (hl : cs.length = 4) : ∃ x0 x1 x2 x3 : Nat, cs = [.int .u16 (x0 : Int), .int .u16 (x1 : Int), .int .u16 (x2 : Int), .int .u16 (x3 : Int)] ∧ x0 < 65536 ∧ x1 < 65536 ∧ x2 < 65536 ∧ x3 < 65536 := by
  obtain ⟨xs, k, hk, hxy, _, hxl, hf⟩ := DataW.trod_array Tryz.underlying24 h
  match cs, hl with
  | [c0, c1, c2, c3], _ =>
    match xs, hxl with
    | [y0, y1, y2, y3], _ =>
      have g0 := hf 0 (by omega)
      have g1 := hf 1 (by omega)
      have g2 := hf 2 (by omega)
      have g3 := hf 3 (by omega)
      simp [cells_w16] at g0 g1 g2 g3
      obtain ⟨k0, e0, _, w0⟩ := DataW.trod_int Tryz.underlying23 g0
      obtain ⟨k1, e1, _, w1⟩ := DataW.trod_int Tryz.underlying23 g1
      obtain ⟨k2, e2, _, w2⟩ := DataW.trod_int Tryz.underlying23 g2
      obtain ⟨k3, e3, _, w3⟩ := DataW.trod_int Tryz.underlying23 g3
      simp at e0 e1 e2 e3
      subst e0 e1 e2 e3
      obtain ⟨n0, rfl, b0⟩ := w16_of w0
      obtain ⟨n1, rfl, b1⟩ := w16_of w1
      obtain ⟨n2, rfl, b2⟩ := w16_of w2
      obtain ⟨n3, rfl, b3⟩ := w16_of w3
      exact ⟨n0, n1, n2, n3, rfl, b0, b1, b2, b3⟩
set_option maxRecDepth 100000 in
theorem open_u4 {base : Nat} {v : Value} {d : DataW H} {ps : List MemPlace} (hv : Value.okWide Tryz.prog w .any base 24 v) (h : DataW.Trod enc Tryz.prog w 0 spare true 24 v d ps) : ∃ x0 x1 x2 x3 : Nat, v = .agg #[.int .u16 (x0 : Int), .int .u16 (x1 : Int), .int .u16 (x2 : Int), .int .u16 (x3 : Int)] ∧ x0 < 65536 ∧ x1 < 65536 ∧ x2 < 65536 ∧ x3 < 65536 := by
  obtain ⟨cs, rfl, hs⟩ := okWide_arr Tryz.underlying24 hv
  obtain ⟨fuel, hf⟩ := h
  obtain ⟨x0, x1, x2, x3, e, hb⟩ := open_u4_el _ _ _ hf (by rw [cells_u4] at hs; simpa [Value.cells] using hs)
  obtain ⟨l⟩ := cs
  simp [Value.cells] at e
  subst e
  exact ⟨x0, x1, x2, x3, rfl, hb⟩
end
end Go.Proofs.YtpihlglblgbbeaaGreatDoor

namespace Go.Proofs.YtpihlglblgbbeaaGreatDoor
open Go.ChangeShapes Go.WideShapes Go.ChangeAt Go.RowKit
open Go.ChangeMaps (open_string)

set_option maxRecDepth 100000 in
theorem pdisj_contract (H : Type) (enc : TypeId × Value → H) (W : World) (base : Nat) (args : Array Value) (ds gs : List (DataW H)) (before : List MemPlace)
    (hval : ∀ (j : Nat) t v, Tryz.f3.params[j]? = some t → args[j]? = some v → Value.okWide Tryz.prog W .any base t v)
    (hW : DataW.Whole enc Tryz.prog Tryz.f3.params.toList Rows.portionDisjointSpec.vars false W args.toList ds gs before) (hT : Pow W) :
    Calls Tryz.prog 3 args W fun e W' => ∃ v, e = .returned v ∧ Rows.portionDisjointSpec.post enc Tryz.prog Tryz.f3 false true false false W args v W' := by
  have hW' := hW
  obtain ⟨p, q, hA0, hV, rfl, hfz, hnd⟩ := hW
  have hA : DataW.TrodAll enc Tryz.prog W 0 (fun _ => true) true Tryz.f3.params.toList args.toList ds p := hA0
  rw [Tryz.params3] at hA hval
  obtain ⟨v0, vs0, d0, ds0, p0, q0, hargs, rfl, rfl, h0, r0⟩ := trodAll_cons hA
  obtain ⟨v1, vs1, d1, ds1, p1, q1, rfl, rfl, rfl, h1, r1⟩ := trodAll_cons r0
  obtain ⟨v2, vs2, d2, ds2, p2, q2, rfl, rfl, rfl, h2, r2⟩ := trodAll_cons r1
  obtain ⟨v3, vs3, d3, ds3, p3, q3, rfl, rfl, rfl, h3, r3⟩ := trodAll_cons r2
  obtain ⟨v4, vs4, d4, ds4, p4, q4, rfl, rfl, rfl, h4, r4⟩ := trodAll_cons r3
  obtain ⟨rfl, rfl, rfl⟩ := trodAll_nil r4
  obtain rfl : args = #[v0, v1, v2, v3, v4] := by cases args; simp_all
  obtain ⟨rfl, rfl⟩ := trodVars_none hV
  obtain ⟨l0, hl0, hp0⟩ := open_sl u6E U6.ok Tryz.underlying22 cells_u6 (hval 0 22 v0 rfl rfl) open_u6_el h0
  obtain ⟨z1, rfl, rfl, rfl, wz1⟩ := open_int Tryz.underlying5 (hval 1 5 v1 rfl rfl) h1; obtain ⟨x1, rfl, b1⟩ := w8_of wz1
  obtain ⟨z2, rfl, rfl, rfl, wz2⟩ := open_int Tryz.underlying5 (hval 2 5 v2 rfl rfl) h2; obtain ⟨x2, rfl, b2⟩ := w8_of wz2
  obtain ⟨z3, rfl, rfl, rfl, wz3⟩ := open_int Tryz.underlying5 (hval 3 5 v3 rfl rfl) h3; obtain ⟨x3, rfl, b3⟩ := w8_of wz3
  obtain ⟨y40, y41, y42, y43, rfl, z40, z41, z42, z43⟩ := open_u4 (hval 4 24 v4 rfl rfl) h4
  refine (dis_walk v0 l0 x1 x2 x3 y40 y41 y42 y43 W hl0 hp0 b1 b2 b3 z40 z41 z42 z43 hT).mono fun e W' ⟨he, hb⟩ => ⟨_, he, ?_⟩
  refine law_post rfl rfl (by intro t ht; rw [Tryz.params3] at ht; simp at ht; rcases ht with rfl | rfl | rfl <;> exact ⟨by kernel_rfl, of_decide_eq_true (by kernel_rfl)⟩) rfl hW' hb

theorem pdisj_reads (os : Os) {H : Type} (enc : TypeId × Value → H) : ∃ places, DataW.whole enc Tryz.prog ((laidWorld os).forCall (fun _ _ => 0) ⟨#[], #[.slice none 0 0, .int .u8 0, .int .u8 0, .int .u8 0, .agg #[.int .u16 0, .int .u16 0, .int .u16 0, .int .u16 0]], []⟩).memory Tryz.f3.params.toList Rows.portionDisjointSpec.vars false (#[.slice none 0 0, .int .u8 0, .int .u8 0, .int .u8 0, .agg #[.int .u16 0, .int .u16 0, .int .u16 0, .int .u16 0]] : Array Value).toList 8 = some ([.nil, .lit (.int .u8 0), .lit (.int .u8 0), .lit (.int .u8 0), .agg [.lit (.int .u16 0), .lit (.int .u16 0), .lit (.int .u16 0), .lit (.int .u16 0)]], [], places) :=
  ⟨[], by kernel_rfl⟩

set_option maxRecDepth 100000 in
theorem pdisj_lifted (os : Os) (started : os.Started) (H : Type) (enc : TypeId × Value → H) (F : Stop.Interp) :
    ReturnsInHanded {} Tryz.checked os 3 .any ((OpenSpec.ofChange Rows.portionDisjointSpec).preRow enc Tryz.prog Tryz.f3 Rows.portionDisjointRow.domain false Rows.portionDisjointRow.laid) (((OpenSpec.ofChange Rows.portionDisjointSpec).at F).post enc Tryz.prog Tryz.f3 false true false false) := by
  obtain ⟨places, hx⟩ := pdisj_reads os enc
  refine returnsInHanded_of_row (C := Tryz.checked) (s := OpenSpec.ofChange Rows.portionDisjointSpec) own started (by kernel_rfl) Tryz.func3
    (witness_row_at (enc := enc) (C := Tryz.checked) false (laidWorld os) #[.slice none 0 0, .int .u8 0, .int .u8 0, .int .u8 0, .agg #[.int .u16 0, .int .u16 0, .int .u16 0, .int .u16 0]] rfl (by kernel_rfl) (by kernel_rfl) (by kernel_rfl)
      (OpenSpec.preRow_of_cond 8 hx (by kernel_rfl) (fun k hk => by cases hk) (by kernel_rfl) (laid_met os _))) ?_
  intro W base args ds gs before hval hW _ hcond _ hlaid hsh _
  exact pdisj_contract H enc W base args ds gs before hval hW (pow_of_laid hlaid)

theorem pdisj_said : Rows.PortionDisjointSaid :=
  OpenClaim.holds_of_cond 3 Tryz.f3 rfl rfl rfl rfl rfl rfl rfl ⟨rfl, rfl, rfl, rfl, rfl⟩ rfl rfl rfl rfl rfl (by kernel_rfl) Tryz.func3 (by kernel_rfl)
    (of_decide_eq_true (by kernel_rfl)) (by unfold Func.isWrapper; first | (rw [if_pos (by decide +kernel)]; kernel_rfl) | (rw [if_neg (by decide +kernel)]; exact ⟨rfl, rfl⟩))
    (fun os started H enc _ F => by rw [OpenClaim.pre_eq_preRow]; exact pdisj_lifted os started H enc F)

/-- No parameter wants a stand-in; the program's own looks are off. -/
theorem pdisj_plain (f : FuncId) (fn : Func) (hf : Tryz.pinned.checked.prog.funcNamed "annalist/annalistlaw19.PortionDisjoint" = some f) (hfn : Tryz.pinned.checked.prog.funcs[f]? = some fn) :
    false = Tryz.pinned.checked.prog.looks [] ∧ ∀ (j : Nat) t, fn.params[j]? = some t → Tryz.pinned.checked.prog.wantsStandIn t = false := by
  obtain rfl : f = 3 := Option.some.inj ((show Tryz.prog.funcNamed "annalist/annalistlaw19.PortionDisjoint" = some 3 by kernel_rfl).symm.trans hf) |>.symm
  obtain rfl : fn = Tryz.f3 := (Option.some.inj (Tryz.func3.symm.trans hfn)).symm
  refine ⟨by kernel_rfl, fun j t ht => ?_⟩
  rw [Tryz.params3] at ht
  have hm := Array.mem_of_getElem? ht
  simp at hm
  rcases hm with rfl | rfl | rfl
  · exact (show Tryz.prog.wantsStandIn 22 = false by kernel_rfl)
  · exact (show Tryz.prog.wantsStandIn 5 = false by kernel_rfl)
  · exact (show Tryz.prog.wantsStandIn 24 = false by kernel_rfl)

/-- The card. -/
theorem pdisj_card : Rows.PortionDisjointCardSaid :=
  Claim7.holds_tied_plain_at .later [] _ _ _ _ pdisj_said (fun _ h => by cases h) (by kernel_rfl) (fun _ h => by cases h) portionDisjoint_row_tie rfl ⟨rfl, rfl⟩ (by kernel_rfl) rfl pdisj_plain (by kernel_rfl)
end Go.Proofs.YtpihlglblgbbeaaGreatDoor
