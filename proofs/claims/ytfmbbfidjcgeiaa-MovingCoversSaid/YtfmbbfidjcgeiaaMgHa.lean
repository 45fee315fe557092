/- A part of the proofs: ShSp, Pes, CvP, Pnm, Cov, Wcv. No condition beside sizes and tables that read as laid. -/
import Derived.Shelf.SlLaysF0
import Derived.Test.YtfmbbfidjcgeiaaProg
import Derived.Test.YtfmbbfidjcgeiaaMgAb
import Derived.Shelf.SlSortCmp.NoneTotal
import Derived.Test.YtfmbbfidjcgeiaaMgAa
import Derived.Test.YtfmbbfidjcgeiaaMgAg
import Derived.Test.YtfmbbfidjcgeiaaMgAe
import Derived.BigQuiet
namespace Go.Proofs.Ytfmbbfidjcgeiaa
open Go.Shelf
def sh_sortPers_ren : Go.Shelf.Ren := ⟨fun | 6 => 67 | 15 => 71 | 14 => 85 | 28 => 95 | 29 => 96 | 20 => 104 | 21 => 105 | 22 => 106 | 23 => 107 | 24 => 108 | 25 => 109 | 26 => 110 | 27 => 111 | 46 => 118 | 47 => 113 | 48 => 114 | 49 => 119 | 50 => 120 | 57 => 124 | n => n, fun | 22 => 64 | 24 => 48 | 25 => 120 | 3 => 3 | 39 => 103 | 0 => 0 | 53 => 148 | 55 => 70 | 4 => 4 | 46 => 141 | 45 => 140 | 50 => 145 | 5 => 5 | 9 => 9 | 66 => 158 | 70 => 162 | 76 => 167 | 77 => 168 | n => n, fun | n => n⟩
theorem sh_sortPers : Go.Proofs.SlLaysF0.n6 Try.prog sh_sortPers_ren := {
  mixed := by kernel_rfl
  f6 := ⟨Try.f67.name, by decide, Try.func67.trans (congrArg some (by kernel_rfl))⟩
  f14 := ⟨Try.f85.name, by decide, Try.func85.trans (congrArg some (by kernel_rfl))⟩
  f15 := Try.func71.trans (congrArg some (by kernel_rfl))
  f20 := ⟨Try.f104.name, by decide, Try.func104.trans (congrArg some (by kernel_rfl))⟩
  f21 := ⟨Try.f105.name, by decide, Try.func105.trans (congrArg some (by kernel_rfl))⟩
  f22 := ⟨Try.f106.name, by decide, Try.func106.trans (congrArg some (by kernel_rfl))⟩
  f23 := ⟨Try.f107.name, by decide, Try.func107.trans (congrArg some (by kernel_rfl))⟩
  f24 := ⟨Try.f108.name, by decide, Try.func108.trans (congrArg some (by kernel_rfl))⟩
  f25 := ⟨Try.f109.name, by decide, Try.func109.trans (congrArg some (by kernel_rfl))⟩
  f26 := ⟨Try.f110.name, by decide, Try.func110.trans (congrArg some (by kernel_rfl))⟩
  f27 := ⟨Try.f111.name, by decide, Try.func111.trans (congrArg some (by kernel_rfl))⟩
  f28 := Try.func95.trans (congrArg some (by kernel_rfl))
  f29 := Try.func96.trans (congrArg some (by kernel_rfl))
  f46 := ⟨Try.f118.name, by decide, Try.func118.trans (congrArg some (by kernel_rfl))⟩
  f47 := Try.func113.trans (congrArg some (by kernel_rfl))
  f48 := Try.func114.trans (congrArg some (by kernel_rfl))
  f49 := ⟨Try.f119.name, by decide, Try.func119.trans (congrArg some (by kernel_rfl))⟩
  f50 := ⟨Try.f120.name, by decide, Try.func120.trans (congrArg some (by kernel_rfl))⟩
  f57 := ⟨Try.f124.name, by decide, Try.func124.trans (congrArg some (by kernel_rfl))⟩
  t0 := Try.underlying0
  a0 := Try.isAgg0
  z0 := Try.sizeOf0
  v0 := Try.zeroValue0
  t3 := Try.underlying3
  a3 := Try.isAgg3
  z3 := Try.sizeOf3
  v3 := Try.zeroValue3
  t4 := Try.underlying4
  a4 := Try.isAgg4
  z4 := Try.sizeOf4
  v4 := Try.zeroValue4
  t5 := Try.underlying5
  a5 := Try.isAgg5
  z5 := Try.sizeOf5
  v5 := Try.zeroValue5
  t9 := Try.underlying9
  a9 := Try.isAgg9
  z9 := Try.sizeOf9
  v9 := Try.zeroValue9
  t22 := Try.underlying64
  a22 := Try.isAgg64
  z22 := Try.sizeOf64
  v22 := Try.zeroValue64
  t25 := Try.underlying120
  a25 := Try.isAgg120
  z25 := Try.sizeOf120
  v25 := Try.zeroValue120
  t39 := Try.underlying103
  a39 := Try.isAgg103
  z39 := Try.sizeOf103
  v39 := Try.zeroValue103
  t45 := Try.underlying140
  a45 := Try.isAgg140
  z45 := Try.sizeOf140
  v45 := Try.zeroValue140
  t46 := Try.underlying141
  a46 := Try.isAgg141
  z46 := Try.sizeOf141
  v46 := Try.zeroValue141
  t50 := Try.underlying145
  a50 := Try.isAgg145
  z50 := Try.sizeOf145
  v50 := Try.zeroValue145
  t53 := Try.underlying148
  a53 := Try.isAgg148
  z53 := Try.sizeOf148
  v53 := Try.zeroValue148
  t55 := Try.underlying70
  a55 := Try.isAgg70
  z55 := Try.sizeOf70
  v55 := Try.zeroValue70
  t66 := Try.underlying158
  a66 := Try.isAgg158
  z66 := Try.sizeOf158
  v66 := Try.zeroValue158
  t70 := Try.underlying162
  a70 := Try.isAgg162
  z70 := Try.sizeOf162
  v70 := Try.zeroValue162
  t76 := Try.underlying167
  a76 := Try.isAgg167
  z76 := Try.sizeOf167
  v76 := Try.zeroValue167
  t77 := Try.underlying168
  a77 := Try.isAgg168
  z77 := Try.sizeOf168
  v77 := Try.zeroValue168 }
end Go.Proofs.Ytfmbbfidjcgeiaa

namespace Go.Proofs.Ytfmbbfidjcgeiaa
open Go.RowKit Go.Lib Go.Shelf Go.Sort

theorem prd_info : (Try.prog.info? 48).map (fun i => (i.zero, i.size, i.bytes)) = some (some (.agg #[.int .i64 0, .int .i64 0]), 2, 16) := by kernel_rfl
/-- Periods. -/
def prdE : El Try.prog (Int × Int) := El.flat 48 2 16 (by decide) (info_mk prd_info rfl) (fun x => [.int .i64 x.1, .int .i64 x.2]) (fun _ => rfl) (by intro x u hu; simp at hu; rcases hu with rfl | rfl <;> rfl)
theorem prds_at {w : World} {G : Nat → Prop} {a : Option Addr} {n c k : Nat} {l : List (Int × Int)} {x : Int × Int} (h : Sl prdE w G (.slice a n c) l) (hk : l[k]? = some x) :
    ∃ b o, a = some ⟨b, o, none⟩ ∧ w.cell? ⟨b, o + k * 2, none⟩ = some (.int .i64 x.1) ∧ w.cell? ⟨b, o + k * 2 + 1, none⟩ = some (.int .i64 x.2) := by
  obtain ⟨b, o, cs, ha, rfl, hc⟩ := Sl.at h hk
  exact ⟨b, o, ha, hc 0 _ rfl, hc 1 _ rfl⟩
theorem prd_at {w : World} {B g n c k : Nat} {l : List (Int × Int)} {x : Int × Int} (h : Own prdE w B (.slice (some ⟨g, 0, none⟩) n c) l) (hk : l[k]? = some x) :
    w.cell? ⟨g, k * 2, none⟩ = some (.int .i64 x.1) ∧ w.cell? ⟨g, k * 2 + 1, none⟩ = some (.int .i64 x.2) := by
  obtain ⟨cs, rfl, hc⟩ := Own.at h hk
  exact ⟨hc 0 _ rfl, hc 1 _ rfl⟩
theorem box_two8 {w : World} {g : Nat} {x y : Value} {e : TypeId} (h : w.heap[g]? = some (.cells #[x, y] e (0, 0))) : w.cell? ⟨g, 0, none⟩ = some x ∧ w.cell? ⟨g, 1, none⟩ = some y := by
  constructor <;> simp [World.cell?, h]
set_option maxHeartbeats 1000000 in
theorem prdCmp_g (a b : Int × Int) (w : World) : Calls Try.prog 68 #[.agg #[.int .i64 a.1, .int .i64 a.2], .agg #[.int .i64 b.1, .int .i64 b.2]] w fun e w' => e = .returned (.int .i64 (cmpI a.1 b.1)) ∧ Grew w w' := by
  obtain ⟨a1, a2⟩ := a
  obtain ⟨b1, b2⟩ := b
  dsimp only
  have HC := fun W => Lib.hid (cmpInt_any a1 b1 W)
  generalize cmpI a1 b1 = r at HC ⊢
  have hB0 := grew_alloc2 w (.cells #[.int .i64 a1, .int .i64 a2] 48) (.cells #[.int .i64 b1, .int .i64 b2] 48)
  obtain ⟨d0, d1⟩ := box_two8 (heap_alloc_old' w (.cells #[.int .i64 a1, .int .i64 a2] 48) (.cells #[.int .i64 b1, .int .i64 b2] 48))
  obtain ⟨e0, e1⟩ := box_two8 (heap_alloc_new' w (.cells #[.int .i64 a1, .int .i64 a2] 48) (.cells #[.int .i64 b1, .int .i64 b2] 48))
  have HB := Lib.hid hB0
  clear hB0
  go_enter Try.func68, Try.ntmps68
  go_wp2_with fail
  refine (HC _).out.mono ?_
  rintro _ w2 ⟨rfl, rfl⟩
  go_wp2_with fail
  go_ret
  exact ⟨rfl, HB.out⟩
theorem swo_prd {β : Type} (f : β → Int × Int) : SWO (ltOf fun x y : β => cmpI (f x).1 (f y).1) where
  irrefl x := by
    show decide (cmpI (f x).1 (f x).1 < 0) = false
    rw [cmpI_zero.2 rfl]
    rfl
  trans x y z h1 h2 := by
    have h := sgn_int (f x).1 (f y).1 (f z).1
    have h1' : decide (cmpI (f x).1 (f y).1 < 0) = true := h1
    have h2' : decide (cmpI (f y).1 (f z).1 < 0) = true := h2
    show decide (cmpI (f x).1 (f z).1 < 0) = true
    unfold Sgn3 at h
    rw [decide_eq_true_eq] at h1' h2' ⊢
    omega
  ntrans x y z h1 h2 := by
    have h := sgn_int (f z).1 (f y).1 (f x).1
    rw [cmpI_swap (f y).1 (f z).1, cmpI_swap (f x).1 (f y).1, cmpI_swap (f x).1 (f z).1] at h
    have h1' : decide (cmpI (f x).1 (f y).1 < 0) = false := h1
    have h2' : decide (cmpI (f y).1 (f z).1 < 0) = false := h2
    show decide (cmpI (f x).1 (f z).1 < 0) = false
    unfold Sgn3 at h
    rw [decide_eq_false_iff_not] at h1' h2' ⊢
    omega
theorem cmpI_lt8 {a b : Int} : cmpI a b < 0 ↔ a < b := by unfold cmpI; split <;> (try split) <;> omega
theorem sortPers_any (v : Value) (l : List (Int × Int)) (B : Nat) (w : World) (hO : Own prdE w B v l) (hl : l.length ≤ 1000000) :
    Calls Try.prog 67 #[v, .func (.func 68) #[] #[]] w fun e w' => e = .returned (.tuple #[]) ∧ ∃ l' : List (Int × Int), l'.Perm l ∧ l'.Pairwise (fun x y => x.1 ≤ y.1) ∧ Own prdE w' B v l' ∧ Kept (fun k => some k = v.ownBlock) w w' ∧ RowKit.Below B w w' := by
  rcases Nat.eq_zero_or_pos l.length with h0 | hpos
  · have hl0 : l = [] := List.eq_nil_of_length_eq_zero h0
    subst hl0
    obtain ⟨a, c, rfl⟩ := hO.shape
    refine (AnyF.slices_SortFunc_none sh_sortPers a c _ w).mono ?_
    rintro _ w' ⟨rfl, rfl⟩
    exact ⟨rfl, [], .refl _, .nil, hO, ⟨Nat.le_refl _, fun _ _ _ => rfl⟩, .refl _ _⟩
  · obtain ⟨g, c, rfl⟩ := Own.shape_lt hO hpos
    have hgl := (hO.lt g rfl).2
    refine (own_sorted (fun x y => cmpI x.1 y.1) hO rfl hpos fun d hd hH hK => ?_).mono ?_
    · have eg : ∀ args w, (callFunc 68 args).run Try.prog w = .ok (.enter 68 args) w := enters_of Try.func68 (by kernel_rfl) rfl
      have hcmp : CmpLays Try.prog 68 #[] (Cel.cells (E := prdE) (w := w) (g := g)) 2 (fun x y => cmpI x.val.1 y.val.1) g 0 d.size w := fun m os dk hdk x y => by
        have e1 : x.cells = [.int .i64 x.val.1, .int .i64 x.val.2] := x.is
        have e2 : y.cells = [.int .i64 y.val.1, .int .i64 y.val.2] := y.is
        rw [e1, e2]
        exact prdCmp_g x.val y.val _
      have := AnyQ.slices_SortFunc sh_sortPers 2 (fun w => Try.isAgg48 w) (fun w => Try.sizeOf48 w) (Cel.cells (E := prdE) (w := w) (g := g)) Cel.len Cel.one (fun x y => cmpI x.val.1 y.val.1) (swo_prd Cel.val) 68 #[] g 0 c d w eg hcmp hH hgl (by omega)
      have e : Value.slice (some ⟨g, 0, none⟩) d.size c = .slice (some ⟨g, 0, none⟩) l.length c := by rw [hd]
      rw [e] at this
      exact this
    · rintro _ w' ⟨rfl, l', hp, hs, hO', hk, hb⟩
      refine ⟨rfl, l', hp, hs.imp (by intro x y h; rw [cmpI_lt8] at h; omega), hO', ?_, hb⟩
      refine ⟨hk.1, fun k hk1 hk2 => hk.2 k hk1 (fun e => hk2 ?_)⟩
      cases e; rfl
end Go.Proofs.Ytfmbbfidjcgeiaa

namespace Go.Proofs.Ytfmbbfidjcgeiaa
open Go.RowKit Go.Lib

/-- One more period. -/
def putPer (out : List (Int × Int)) (p : Int × Int) : List (Int × Int) :=
  match out.getLast? with
  | some z => if p.1 ≤ z.2 then out.dropLast ++ [(z.1, max z.2 p.2)] else out ++ [p]
  | none => out ++ [p]
theorem putPer_nil (p : Int × Int) : putPer [] p = [p] := rfl
theorem putPer_join {out : List (Int × Int)} {z p : Int × Int} (h : p.1 ≤ z.2) : putPer (out ++ [z]) p = out ++ [(z.1, max z.2 p.2)] := by
  have e : (out ++ [z]).getLast? = some z := by simp
  unfold putPer
  rw [e]
  simp [h]
theorem putPer_new {out : List (Int × Int)} {z p : Int × Int} (h : ¬ p.1 ≤ z.2) : putPer (out ++ [z]) p = (out ++ [z]) ++ [p] := by
  have e : (out ++ [z]).getLast? = some z := by simp
  unfold putPer
  rw [e]
  simp [h]
theorem putPer_len (out : List (Int × Int)) (p : Int × Int) : (putPer out p).length ≤ out.length + 1 := by
  rcases List.eq_nil_or_concat out with rfl | ⟨o, z, rfl⟩
  · simp [putPer_nil]
  · rw [List.concat_eq_append]
    by_cases h : p.1 ≤ z.2
    · rw [putPer_join h]; simp
    · rw [putPer_new h]; simp
/-- The points of a set of periods. -/
def PtIn (l : List (Int × Int)) (x : Int) : Prop := ∃ p ∈ l, p.1 ≤ x ∧ x < p.2
theorem ptIn_append {l m : List (Int × Int)} {x : Int} : PtIn (l ++ m) x ↔ PtIn l x ∨ PtIn m x := by
  unfold PtIn
  constructor
  · rintro ⟨p, hp, h⟩
    rcases List.mem_append.1 hp with hp | hp
    · exact .inl ⟨p, hp, h⟩
    · exact .inr ⟨p, hp, h⟩
  · rintro (⟨p, hp, h⟩ | ⟨p, hp, h⟩)
    · exact ⟨p, List.mem_append.2 (.inl hp), h⟩
    · exact ⟨p, List.mem_append.2 (.inr hp), h⟩
theorem ptIn_one {p : Int × Int} {x : Int} : PtIn [p] x ↔ p.1 ≤ x ∧ x < p.2 := by
  unfold PtIn
  simp
/-- What is merged so far: each period is one, starts no later than c, and the points are those of l. -/
structure MergeI (out l : List (Int × Int)) (c : Int) : Prop where
  ok : ∀ p ∈ out, p.1 < p.2 ∧ p.1 ≤ c
  pts : ∀ x, PtIn out x ↔ PtIn l x
theorem MergeI.put {out l : List (Int × Int)} {c : Int} {p : Int × Int} (h : MergeI out l c) (hc : c ≤ p.1) (hp : p.1 < p.2) : MergeI (putPer out p) (l ++ [p]) p.1 := by
  rcases List.eq_nil_or_concat out with rfl | ⟨o, z, rfl⟩
  · rw [putPer_nil]
    refine ⟨fun q hq => ?_, fun x => ?_⟩
    · rw [List.mem_singleton] at hq; subst hq; omega
    · have := h.pts x
      rw [ptIn_append, ← this]
      unfold PtIn
      simp
  · rw [List.concat_eq_append] at h ⊢
    have hz := h.ok z (List.mem_append.2 (.inr (List.mem_singleton.2 rfl)))
    by_cases e : p.1 ≤ z.2
    · rw [putPer_join e]
      refine ⟨fun q hq => ?_, fun x => ?_⟩
      · rcases List.mem_append.1 hq with hq | hq
        · have := h.ok q (List.mem_append.2 (.inl hq)); omega
        · rw [List.mem_singleton] at hq; subst hq; dsimp only; omega
      · have := h.pts x
        rw [ptIn_append] at this
        rw [ptIn_append, ptIn_append, ← this, ptIn_one, ptIn_one, ptIn_one]
        dsimp only
        constructor
        · rintro (h | h)
          · exact .inl (.inl h)
          · by_cases h2 : x < z.2
            · exact .inl (.inr ⟨h.1, h2⟩)
            · exact .inr (by omega)
        · rintro ((h | h) | h)
          · exact .inl h
          · exact .inr (by omega)
          · exact .inr (by omega)
    · rw [putPer_new e]
      refine ⟨fun q hq => ?_, fun x => ?_⟩
      · rcases List.mem_append.1 hq with hq | hq
        · have := h.ok q hq; omega
        · rw [List.mem_singleton] at hq; subst hq; omega
      · rw [ptIn_append, h.pts x, ptIn_append]
theorem MergeI.nil : MergeI [] [] (-1) := ⟨fun _ h => (by cases h), fun _ => Iff.rfl⟩
/-- Some period of the merged ones meets a stretch of points exactly if one of the periods does. -/
theorem meets_iff {out l : List (Int × Int)} {c : Int} (h : MergeI out l c) (hl : ∀ p ∈ l, p.1 < p.2) {a b : Int} (hab : a ≤ b) : (∃ p ∈ out, p.1 ≤ b ∧ a < p.2) ↔ ∃ p ∈ l, p.1 ≤ b ∧ a < p.2 := by
  have key : ∀ m : List (Int × Int), (∀ p ∈ m, p.1 < p.2) → ((∃ p ∈ m, p.1 ≤ b ∧ a < p.2) ↔ ∃ x, a ≤ x ∧ x ≤ b ∧ PtIn m x) := fun m hm => by
    constructor
    · rintro ⟨p, hp, h1, h2⟩
      have := hm p hp
      exact ⟨max p.1 a, by omega, by omega, p, hp, by omega, by omega⟩
    · rintro ⟨x, h1, h2, p, hp, h3, h4⟩
      exact ⟨p, hp, by omega, by omega⟩
  rw [key out fun p hp => (h.ok p hp).1, key l hl]
  constructor
  · rintro ⟨x, h1, h2, h3⟩; exact ⟨x, h1, h2, (h.pts x).1 h3⟩
  · rintro ⟨x, h1, h2, h3⟩; exact ⟨x, h1, h2, (h.pts x).2 h3⟩
end Go.Proofs.Ytfmbbfidjcgeiaa

namespace Go.Proofs.Ytfmbbfidjcgeiaa
open Go.RowKit Go.Lib

/-- What Normalize returns: the periods merged, in some order of their starts. -/
def NrzRet (w : World) (l : List (Int × Int)) (e : Ending) (w' : World) : Prop := ∃ u out l' c, e = .returned u ∧ l'.Perm l ∧ MergeI out l' c ∧ out.length ≤ l.length ∧ Own prdE w' w.heap.size u out ∧ Below w.heap.size w w'
set_option maxHeartbeats 8000000 in
set_option maxRecDepth 100000 in
theorem pnorm_any (v : Value) (l : List (Int × Int)) (w : World) (hv : Sl prdE w free v l) (hl : l.length ≤ 1000) (hok : ∀ p ∈ l, pvalid p.1 p.2 = true) :
    Calls Try.prog 45 #[v] w (NrzRet w l) := by
  obtain ⟨a, c, rfl⟩ := hv.shape
  have h63 := hv.1
  obtain ⟨n, hn⟩ : ∃ n, n = l.length := ⟨_, rfl⟩
  have HV := Lib.hid hv
  have HN := Lib.hid hn
  have HOK := Lib.hid hok
  rw [← hn] at HV h63 hl ⊢
  clear hv hn hok
  go_enter Try.func45, Try.ntmps45
  go_wp2_with fail
  go_loopw [12, 3] (fun i o wr => ∃ k : Nat, k ≤ n ∧ i = .int .i64 (k : Int) ∧ Own prdE wr w.heap.size o (l.take k) ∧ Hid (Below w.heap.size w wr)) (fun i _ _ => n - (intOf i).toNat)
  case atStart => exact ⟨0, Nat.zero_le _, rfl, Own.nil _ _ _, Lib.hid (.refl _ _)⟩
  case round =>
    obtain ⟨k, hk, rfl, hO, HB⟩ := hrel
    obtain ⟨wo, rfl⟩ : ∃ wo : World, wo = wr := ⟨_, rfl⟩
    by_cases hlt : k < n
    · obtain ⟨x, hx⟩ := lget_some l k (by rw [← HN.out]; exact hlt)
      obtain ⟨b, o, rfl, p0, p1⟩ := prds_at (HV.out.below HB.out) hx
      have HT : Hid (l.take (k + 1) = l.take k ++ [x]) := Lib.hid (take_get hx)
      have hvx := HOK.out x (List.mem_of_getElem? hx)
      have hlk : (l.take k).length ≤ 1000 := by rw [List.length_take]; omega
      obtain ⟨lk, hlke⟩ : ∃ lk, lk = l.take k := ⟨_, rfl⟩
      rw [← hlke] at hO HT hlk
      obtain ⟨ao, co, rfl⟩ := hO.shape
      obtain ⟨lo, hi⟩ := x
      dsimp only at p0 p1 hvx
      have HPV := fun W => Lib.hid (pvalid_any lo hi W)
      rw [hvx] at HPV
      have hg := World.alloc_heap_new wo (.cells #[.int .i64 lo, .int .i64 hi] 48)
      have hb := below_alloc wo (.cells #[.int .i64 lo, .int .i64 hi] 48)
      have HO1 := Lib.hid (hO.below hb)
      have HB1 := Lib.hid (below_keep HB.out hb)
      have HG := Lib.hid hg
      clear hx hO hlke hg hb HB hvx
      go_wp2_with fail
      refine (HPV _).out.mono ?_
      rintro _ w3 ⟨rfl, hb3⟩
      obtain ⟨d0, d1, _, _⟩ := box_two (box_kept HG.out hb3)
      have HO3 := Lib.hid (HO1.out.below hb3)
      have HB3 := Lib.hid (below_keep HB1.out hb3)
      clear hb3 HO1 HB1 HG HPV
      go_wp2_with (at_builtin; refine wpList_push rfl (.tmp 18) (.tmp 20) 64 rfl prdE Try.underlying64 w.heap.size (.slice ao lk.length co) lk rfl HO3.out [(lo, hi)] #[.int .i64 lo, .int .i64 hi] (Els.one rfl) 1 1 rfl rfl (by decide) (by unfold maxLen; omega) (by show _ * 16 ≤ _; omega) HB3.out.size ?_; intro g cap w5 hP hPa)
      go_roundw
      case rel => exact ⟨k + 1, by omega, by go_num, by rw [HT.out]; exact hP.own' (by simp), Lib.hid (HB3.out.trans hP.below)⟩
      case measure => simp [intOf]; omega
    · have hkk : l.take k = l := List.take_of_length_le (by rw [← HN.out]; omega)
      rw [hkk] at hO
      have HSR := Lib.hid (sortPers_any _ l w.heap.size wo hO (by rw [← HN.out]; omega))
      obtain ⟨ao, co, rfl⟩ := hO.shape
      rw [← HN.out] at HSR ⊢
      clear hO hkk
      go_wp2_with fail
      refine HSR.out.mono ?_
      rintro _ w3 ⟨rfl, l', hp, hs, hO3, hK3, hb3⟩
      have hl' : l'.length = n := by rw [hp.length_eq, ← HN.out]
      have hs3 := hO3.sl
      have HS3 := Lib.hid hs3
      have HPM := Lib.hid hp
      have HSO := Lib.hid hs
      have HL' := Lib.hid hl'
      have HB3 : Hid (Below w.heap.size w w3) := Lib.hid (HB.out.trans hb3)
      have hvl : ∀ p ∈ l', p.1 < p.2 := fun p hpm => (pvalid_iff.1 (HOK.out p (hp.mem_iff.1 hpm))).2.1
      have HVL := Lib.hid hvl
      clear hp hs hO3 hK3 hb3 hl' hs3 hvl HSR HB
      go_wp2_with fail
      go_loopw [27, 4] (fun i o wr => ∃ (k : Nat) (out : List (Int × Int)) (c0 : Int), k ≤ n ∧ i = .int .i64 (k : Int) ∧ Own prdE wr w3.heap.size o out ∧ Hid (MergeI out (l'.take k) c0) ∧ Hid (∀ p ∈ l'.drop k, c0 ≤ p.1) ∧ out.length ≤ k ∧ Hid (Below w3.heap.size w3 wr)) (fun i _ _ => n - (intOf i).toNat)
      case atStart =>
        refine ⟨0, [], ?_, Nat.zero_le _, rfl, Own.nil _ _ _, ?_, ?_, Nat.le_refl _, Lib.hid (.refl _ _)⟩
        · exact ((l'.map Prod.fst).min?).getD 0
        · exact Lib.hid ⟨fun _ h => (by cases h), fun _ => Iff.rfl⟩
        · refine Lib.hid fun p hpm => ?_
          have hpm : p ∈ l' := hpm
          have h1 : p.1 ∈ l'.map Prod.fst := List.mem_map_of_mem hpm
          cases e : (l'.map Prod.fst).min? with
          | none => rw [List.min?_eq_none_iff] at e; rw [e] at h1; cases h1
          | some m => exact (List.min?_eq_some_iff.1 e).2 _ h1
      case round =>
        obtain ⟨k2, out, c0, hk2, rfl, hOo, HMI, HC0, hol, HBq⟩ := hrel
        obtain ⟨wq, rfl⟩ : ∃ wq : World, wq = wr := ⟨_, rfl⟩
        obtain ⟨aq, cq, rfl⟩ := hOo.shape
        by_cases hlt2 : k2 < n
        · obtain ⟨x, hx⟩ := lget_some l' k2 (by rw [HL'.out]; exact hlt2)
          obtain ⟨b, o, rfl, p0, p1⟩ := prds_at (HS3.out.below HBq.out) hx
          have hdrop : l'.drop k2 = x :: l'.drop (k2 + 1) := by
            obtain ⟨h1, rfl⟩ := List.getElem?_eq_some_iff.1 hx
            exact List.drop_eq_getElem_cons h1
          have hxv := HVL.out x (List.mem_of_getElem? hx)
          have HM2 : Hid (MergeI (putPer out x) (l'.take (k2 + 1)) x.1) := Lib.hid (by
            rw [take_get hx]
            exact HMI.out.put (HC0.out x (by rw [hdrop]; exact List.mem_cons_self ..)) hxv)
          have HC2 : Hid (∀ p ∈ l'.drop (k2 + 1), x.1 ≤ p.1) := Lib.hid fun p hpm => by
            have h1 : (l'.drop k2).Pairwise fun x y => x.1 ≤ y.1 := HSO.out.sublist (List.drop_sublist _ _)
            rw [hdrop] at h1
            exact (List.pairwise_cons.1 h1).1 p hpm
          obtain ⟨lo, hi⟩ := x
          dsimp only at p0 p1 hxv HC2
          obtain ⟨wa, hwa⟩ : ∃ wa, wa = wq.alloc (.cells #[.int .i64 lo, .int .i64 hi] 48) := ⟨_, rfl⟩
          obtain ⟨ba, hba⟩ : ∃ ba, ba = wq.heap.size := ⟨_, rfl⟩
          have hg : wa.heap[ba]? = some (.cells #[.int .i64 lo, .int .i64 hi] 48 (0, 0)) := by rw [hwa, hba]; exact World.alloc_heap_new _ _
          have hb : Below wq.heap.size wq wa := by rw [hwa]; exact below_alloc _ _
          obtain ⟨d0, d1, _, _⟩ := box_two hg
          have HOa := Lib.hid (hOo.below hb)
          have HBa := Lib.hid (below_keep HBq.out hb)
          have HWA := Lib.hid hwa
          have HBAE := Lib.hid hba
          clear hx hdrop hxv hOo HMI HC0 hwa hba hg hb HBq
          rcases List.eq_nil_or_concat out with hle | ⟨ini, z, hle⟩
          · subst hle
            have HR : Hid (putPer [] (lo, hi) = [(lo, hi)]) := Lib.hid rfl
            go_upto_region 13 with fail
            rw [← HWA.out, ← HBAE.out]
            go_quiet (fail)
            obtain ⟨wd, hwd⟩ : ∃ wd, wd = wa.drewN nq := ⟨_, rfl⟩
            rw [← hwd]
            have hbd : Below wa.heap.size wa wd := by rw [hwd]; exact below_drewN (.refl _ _) _
            have e0 := cell_keep hbd d0
            have e1 := cell_keep hbd d1
            have HOd := Lib.hid (HOa.out.below hbd)
            have HBd := Lib.hid (below_keep HBa.out hbd)
            clear hwd hbd d0 d1 HOa HBa HWA HBAE
            go_wp2_with (at_builtin; refine wpList_push rfl (.tmp 60) (.tmp 62) 64 rfl prdE Try.underlying64 w3.heap.size (.slice aq 0 cq) [] rfl HOd.out [(lo, hi)] #[.int .i64 lo, .int .i64 hi] (Els.one rfl) 1 1 rfl rfl (by decide) (by unfold maxLen; simp) (by show _ * 16 ≤ _; simp) HBd.out.size ?_; intro g cap w5 hP hPa)
            go_roundw
            case rel => exact ⟨k2 + 1, _, _, by omega, by go_num, by rw [HR.out] at HM2; exact hP.own' rfl, by rw [HR.out] at HM2; exact HM2, HC2, by simp, Lib.hid (HBd.out.trans hP.below)⟩
            case measure => simp [intOf]; omega
          · rw [List.concat_eq_append] at hle
            subst hle
            obtain ⟨mm, hmm⟩ : ∃ mm, mm = ini.length := ⟨_, rfl⟩
            have hlen : (ini ++ [z]).length = mm + 1 := by rw [List.length_append, hmm]; rfl
            have hzat : (ini ++ [z])[mm]? = some z := by rw [hmm]; simp
            have hset : ∀ y, (ini ++ [z]).set mm y = ini ++ [y] := fun y => by rw [hmm]; simp
            have HLEN := Lib.hid hlen
            have HZAT := Lib.hid hzat
            have HSET := Lib.hid hset
            obtain ⟨gq, cc, hsh⟩ := HOa.out.shape_pos (by rw [hlen]; omega)
            rw [hlen] at hsh hol HOa ⊢
            cases hsh
            obtain ⟨zlo, zhi⟩ := z
            obtain ⟨s0, s1⟩ := prd_at HOa.out hzat
            dsimp only at s0 s1
            have hgq := (HOa.out.lt gq rfl)
            have hn1 : IntKind.i64.wrap ((mm : Int) + 1 - 1) = (mm : Int) := by rw [IntWalk.i64_in _ (by omega)]; omega
            have hn2 : (mm : Int) + 1 - 1 = (mm : Int) := by omega
            have hm1 : (mm : Int) < (mm : Int) + 1 := by omega
            have hm2 : mm < mm + 1 := by omega
            have hp1 : (0 : Int) < (mm : Int) + 1 := by omega
            have hpd : decide ((0 : Int) < (mm : Int) + 1) = true := decide_eq_true hp1
            clear hlen hzat hset hmm
            by_cases hj : lo ≤ zhi
            · have HR : Hid (putPer (ini ++ [(zlo, zhi)]) (lo, hi) = ini ++ [(zlo, max zhi hi)]) := Lib.hid (putPer_join hj)
              have hjd : decide (lo ≤ zhi) = true := decide_eq_true hj
              go_upto_region 13 with fail
              rw [← HWA.out, ← HBAE.out]
              go_quiet (fail)
              obtain ⟨wd, hwd⟩ : ∃ wd, wd = wa.drewN nq := ⟨_, rfl⟩
              rw [← hwd]
              have hbd : Below wa.heap.size wa wd := by rw [hwd]; exact below_drewN (.refl _ _) _
              have e0 := cell_keep hbd d0
              have e1 := cell_keep hbd d1
              have HOd := Lib.hid (HOa.out.below hbd)
              have HBd := Lib.hid (below_keep HBa.out hbd)
              have t0 := cell_keep hbd s0
              have t1 := cell_keep hbd s1
              have hfz : wd.frozen? ⟨gq, mm * 2 + 1, none⟩ = false := HOd.out.frozen HLEN.out _
              have hput := (HOd.out.put_at (E := prdE) (k := mm) (j := 1) (us := [.int .i64 (max zhi hi)]) (y := (zlo, max zhi hi)) HLEN.out hm2 (by show 1 + 1 ≤ 2; decide) (fun x0 cs hx0 hcs => by
                rw [HZAT.out] at hx0
                cases hx0
                cases hcs
                rfl)).1
              rw [HSET.out] at hput
              have hput2 : Own prdE (wd.setCell ⟨gq, mm * 2 + 1, none⟩ (.int .i64 (max zhi hi))) w3.heap.size (.slice (some ⟨gq, 0, none⟩) (mm + 1) cq) (ini ++ [(zlo, max zhi hi)]) := hput
              have HPUT := Lib.hid hput2
              have HBS := Lib.hid (HBd.out.setCell (p := ⟨gq, mm * 2 + 1, none⟩) hgq.1 (.int .i64 (max zhi hi)))
              have HLL : Hid ((ini ++ [(zlo, max zhi hi)]).length = mm + 1) := Lib.hid (by have := HLEN.out; rw [List.length_append] at this ⊢; exact this)
              clear hwd hbd d0 d1 HOa HBa HWA HBAE s0 s1 hput hput2
              go_upto_region 14 with fail
              go_region
              all_goals (
                go_wp2_with fail
                go_roundw
                case rel => exact ⟨k2 + 1, _, _, by omega, by go_num, HPUT.out.drew, by rw [HR.out] at HM2; exact HM2, HC2, by rw [HLL.out]; omega, Lib.hid (by first | exact HBS.out.drew | exact HBS.out)⟩
                case measure => simp [intOf]; omega)
            · have HR : Hid (putPer (ini ++ [(zlo, zhi)]) (lo, hi) = (ini ++ [(zlo, zhi)]) ++ [(lo, hi)]) := Lib.hid (putPer_new hj)
              have hjd : decide (lo ≤ zhi) = false := decide_eq_false hj
              go_upto_region 13 with fail
              rw [← HWA.out, ← HBAE.out]
              go_quiet (fail)
              obtain ⟨wd, hwd⟩ : ∃ wd, wd = wa.drewN nq := ⟨_, rfl⟩
              rw [← hwd]
              have hbd : Below wa.heap.size wa wd := by rw [hwd]; exact below_drewN (.refl _ _) _
              have e0 := cell_keep hbd d0
              have e1 := cell_keep hbd d1
              have HOd := Lib.hid (HOa.out.below hbd)
              have HBd := Lib.hid (below_keep HBa.out hbd)
              have hzl : (ini ++ [(zlo, zhi)]).length = mm + 1 := HLEN.out
              clear hwd hbd d0 d1 HOa HBa HWA HBAE s0 s1
              go_wp2_with (at_builtin; refine wpList_push rfl (.tmp 60) (.tmp 62) 64 rfl prdE Try.underlying64 w3.heap.size (.slice (some ⟨gq, 0, none⟩) (mm + 1) cq) (ini ++ [(zlo, zhi)]) rfl HOd.out [(lo, hi)] #[.int .i64 lo, .int .i64 hi] (Els.one rfl) 1 1 rfl rfl (by decide) (by rw [hzl]; unfold maxLen; omega) (by rw [hzl]; show _ * 16 ≤ _; omega) HBd.out.size ?_; intro g cap w5 hP hPa)
              go_roundw
              case rel => exact ⟨k2 + 1, _, _, by omega, by go_num, by rw [HR.out] at HM2; exact hP.own' (by rw [List.length_append, hzl]; rfl), by rw [HR.out] at HM2; exact HM2, HC2, by rw [List.length_append, hzl]; simp; omega, Lib.hid (HBd.out.trans hP.below)⟩
              case measure => simp [intOf]; omega
        · have hkk : l'.take k2 = l' := List.take_of_length_le (by rw [HL'.out]; omega)
          rw [hkk] at HMI
          have HO9 := Lib.hid hOo
          have HBF : Hid (Below w.heap.size w wq) := Lib.hid (below_keep HB3.out HBq.out)
          clear hkk hOo HBq
          go_wp2_with fail
          go_ret
          exact ⟨_, out, l', c0, rfl, HPM.out, HMI.out, by rw [← HN.out]; omega, HO9.out.mono HB3.out.size, HBF.out⟩
end Go.Proofs.Ytfmbbfidjcgeiaa

namespace Go.Proofs.Ytfmbbfidjcgeiaa
open Go.RowKit Go.Lib

def pers (l : List Tup) : List (Int × Int) := l.map fun t => (t.lo, t.hi)
/-- What Coverage returns: periods that meet a window exactly if a tuple's period does. -/
def CovRet (w : World) (l : List Tup) (e : Ending) (w' : World) : Prop :=
  ∃ u out, e = .returned u ∧ (∀ D d : Int, 1 ≤ D → ((∃ p ∈ out, p.1 ≤ d ∧ d - D + 1 < p.2) ↔ 0 < (winL D l d).length)) ∧ out.length ≤ l.length ∧ Own prdE w' w.heap.size u out ∧ Below w.heap.size w w'
set_option maxHeartbeats 4000000 in
set_option maxRecDepth 100000 in
theorem coverage_any (v : Value) (l : List Tup) (w : World) (hv : Tups w v l) (hl : l.length ≤ 1000) (hd : InDays l) :
    Calls Try.prog 27 #[v] w (CovRet w l) := by
  obtain ⟨a, c, rfl⟩ := hv.shape
  have h63 := hv.1
  obtain ⟨n, hn⟩ : ∃ n, n = l.length := ⟨_, rfl⟩
  have HV := Lib.hid hv
  have HN := Lib.hid hn
  have HID := Lib.hid hd
  rw [← hn] at HV h63 hl ⊢
  clear hv hn hd
  go_enter Try.func27, Try.ntmps27
  go_wp2_with fail
  go_loopw [8, 3] (fun i o wr => ∃ k : Nat, k ≤ n ∧ i = .int .i64 (k : Int) ∧ Own prdE wr w.heap.size o (pers (l.take k)) ∧ Hid (Below w.heap.size w wr)) (fun i _ _ => n - (intOf i).toNat)
  case atStart => exact ⟨0, Nat.zero_le _, rfl, Own.nil _ _ _, Lib.hid (.refl _ _)⟩
  case round =>
    obtain ⟨k, hk, rfl, hO, HB⟩ := hrel
    obtain ⟨wo, rfl⟩ : ∃ wo : World, wo = wr := ⟨_, rfl⟩
    by_cases hlt : k < n
    · obtain ⟨x, hx⟩ := lget_some l k (by rw [← HN.out]; exact hlt)
      obtain ⟨b, o, a1, n1, e1, m1, rfl, hvv, hll, p0, p1, p2, p3⟩ := tups_at HV.out hx
      replace p0 := cell_keep HB.out p0
      replace p1 := cell_keep HB.out p1
      replace p2 := cell_keep HB.out p2
      replace p3 := cell_keep HB.out p3
      have HT : Hid (pers (l.take (k + 1)) = pers (l.take k) ++ [(x.lo, x.hi)]) := Lib.hid (by unfold pers; rw [take_get hx, List.map_append]; rfl)
      have hlk : (pers (l.take k)).length ≤ 1000 := by unfold pers; rw [List.length_map, List.length_take]; omega
      obtain ⟨lk, hlke⟩ : ∃ lk, lk = pers (l.take k) := ⟨_, rfl⟩
      rw [← hlke] at hO HT hlk
      obtain ⟨ao, co, rfl⟩ := hO.shape
      obtain ⟨xv, xlo, xhi, xl⟩ := x
      dsimp only at p0 p1 p2 p3 HT
      obtain ⟨wa, hwa⟩ : ∃ wa, wa = wo.alloc (.cells #[.slice a1 xv.length n1, .int .i64 xlo, .int .i64 xhi, .slice e1 xl.length m1] 51) := ⟨_, rfl⟩
      have hg : wa.heap[wo.heap.size]? = some (.cells #[.slice a1 xv.length n1, .int .i64 xlo, .int .i64 xhi, .slice e1 xl.length m1] 51 (0, 0)) := by rw [hwa]; exact World.alloc_heap_new _ _
      have hb : Below wo.heap.size wo wa := by rw [hwa]; exact below_alloc _ _
      obtain ⟨⟨d0, d1, d2, d3⟩, _⟩ := box_four hg
      have HO1 := Lib.hid (hO.below hb)
      have HB1 := Lib.hid (below_keep HB.out hb)
      have HWA := Lib.hid hwa
      clear hx hvv hll hO hlke hg hb HB hwa
      go_upto_region 5 with fail
      rw [← HWA.out]
      go_wp2_with (at_builtin; refine wpList_push rfl (.tmp 12) (.tmp 15) 64 rfl prdE Try.underlying64 w.heap.size (.slice ao lk.length co) lk rfl HO1.out [(xlo, xhi)] #[.int .i64 xlo, .int .i64 xhi] (Els.one rfl) 1 1 rfl rfl (by decide) (by unfold maxLen; omega) (by show _ * 16 ≤ _; omega) HB1.out.size ?_; intro g cap w5 hP hPa)
      go_roundw
      case rel => exact ⟨k + 1, by omega, by go_num, by rw [HT.out]; exact hP.own' (by simp), Lib.hid (HB1.out.trans hP.below)⟩
      case measure => simp [intOf]; omega
    · have hkk : l.take k = l := List.take_of_length_le (by rw [← HN.out]; omega)
      rw [hkk] at hO
      have hpl : (pers l).length = n := by unfold pers; rw [List.length_map, HN.out]
      have HNZ := Lib.hid (pnorm_any _ (pers l) wo hO.sl (by omega) (fun p hp => by
        obtain ⟨t, ht, rfl⟩ := List.mem_map.1 hp
        have := HID.out t ht
        exact pvalid_iff.2 ⟨this.1, this.2.1, by dsimp only; omega⟩))
      have hpl2 : ∀ p ∈ pers l, p.1 < p.2 := fun p hp => by
        obtain ⟨t, ht, rfl⟩ := List.mem_map.1 hp
        exact (HID.out t ht).2.1
      obtain ⟨ao, co, rfl⟩ := hO.shape
      have HPL := Lib.hid hpl
      have HP2 := Lib.hid hpl2
      rw [hpl] at HNZ ⊢
      clear hO hkk hpl hpl2
      go_wp2_with fail
      refine HNZ.out.mono ?_
      rintro _ w3 ⟨u, out, l', c0, rfl, hp, hm, hol, hOu, hb3⟩
      have HOU := Lib.hid hOu
      have HB3 := Lib.hid (below_keep HB.out hb3)
      have HMT : Hid (∀ D d : Int, 1 ≤ D → ((∃ p ∈ out, p.1 ≤ d ∧ d - D + 1 < p.2) ↔ 0 < (winL D l d).length)) := Lib.hid fun D d hD => by
        rw [← covers_iff]
        have h1 := meets_iff hm (fun p hpm => HP2.out p (hp.mem_iff.1 hpm)) (a := d - D + 1) (b := d) (by omega)
        refine h1.trans ⟨fun ⟨p, h2, h3⟩ => ⟨p, hp.mem_iff.1 h2, h3⟩, fun ⟨p, h2, h3⟩ => ⟨p, hp.mem_iff.2 h2, h3⟩⟩
      have HOL := Lib.hid (by rw [HPL.out] at hol; exact hol : out.length ≤ n)
      clear hp hm hol hOu hb3 HNZ
      go_wp2_with fail
      go_ret
      exact ⟨_, out, rfl, HMT.out, by rw [← HN.out]; exact HOL.out, HOU.out.mono HB.out.size, HB3.out⟩
end Go.Proofs.Ytfmbbfidjcgeiaa

namespace Go.Proofs.Ytfmbbfidjcgeiaa
open Go.RowKit Go.Lib

/-- Does one of the periods meet the window? -/
def covB (out : List (Int × Int)) (D d : Int) : Bool := out.any fun p => decide (p.1 ≤ d) && decide (d - D + 1 < p.2)
theorem covB_iff {out : List (Int × Int)} {D d : Int} : covB out D d = true ↔ ∃ p ∈ out, p.1 ≤ d ∧ d - D + 1 < p.2 := by
  unfold covB
  simp [List.any_eq_true]
theorem covB_snoc {out : List (Int × Int)} {k : Nat} {x : Int × Int} {D d : Int} (h : out[k]? = some x) : covB (out.take (k + 1)) D d = (covB (out.take k) D d || (decide (x.1 ≤ d) && decide (d - D + 1 < x.2))) := by
  unfold covB
  rw [take_get h, List.any_append]
  simp
set_option maxHeartbeats 8000000 in
set_option maxRecDepth 100000 in
theorem covers_walk (v : Value) (l0 : List U5) (x1 x2 : Nat) (w : World) (hv : Sl u5E w free v l0) (hok : ∀ x ∈ l0, x.ok) (h1 : x1 < 256) (h2 : x2 < 65536) :
    Calls Try.prog 9 #[v, .int .u8 (x1 : Int), .int .u16 (x2 : Int)] w (QuietW w) := by
  have HTU := Lib.hid (tuples_any v l0 12 (by omega) w hv hok)
  obtain ⟨d, hd⟩ : ∃ d : Nat, d = x2 % 80 := ⟨_, rfl⟩
  have hd80 : d < 80 := by omega
  have e1 : (x2 : Int) % 80 = (d : Int) := by omega
  obtain ⟨D, hD⟩ : ∃ D : Int, D = max (x1 : Int) 1 := ⟨_, rfl⟩
  have hD1 : 1 ≤ D := by omega
  have hD2 : D ≤ 255 := by omega
  have hcl : clampD D = D := by unfold clampD; omega
  have hday := tupsOf_days l0 12
  have h64 := tups_few64 l0 12
  have hll := tupsOf_length l0 12
  generalize tupsOf l0 12 = l at HTU hday h64 hll
  have hna := wide_n hday D (show 0 ≤ (d : Int) by omega) (show (d : Int) < 1000000 by omega)
  rw [hcl] at hna
  obtain ⟨na, hnae⟩ : ∃ na, na = (winL D l (d : Int)).length := ⟨_, rfl⟩
  rw [← hnae] at hna
  obtain ⟨m, hm⟩ : ∃ m, m = l.length := ⟨_, rfl⟩
  have HM := Lib.hid hm
  have H64 := Lib.hid h64
  have HDY := Lib.hid hday
  have HNA := Lib.hid hna
  have HNE := Lib.hid hnae
  have HD := Lib.hid hD
  rw [← hm] at hll
  clear hv hok hday h64 hm hd hna hnae hcl hD
  go_enter Try.func9, Try.ntmps9
  go_wp2_with fail
  refine HTU.out.mono ?_
  rintro _ w1 ⟨v1, rfl, hO1, hb1⟩
  obtain ⟨a1, c1, rfl⟩ := hO1.shape
  have HL1 := Lib.hid hO1.sl
  have HB1 := Lib.hid hb1
  have HCV := Lib.hid (coverage_any _ l w1 hO1.sl (by rw [← HM.out]; omega) HDY.out)
  rw [← HM.out] at HL1 HCV ⊢
  clear hO1 hb1 HTU
  go_upto_region 3 with fail
  rw [← HD.out]
  clear e1
  go_wp2_with fail
  refine HCV.out.mono ?_
  rintro _ w2 ⟨v2, out, rfl, hmt, hol, hO2, hb2⟩
  rw [← HM.out] at hol
  obtain ⟨a2, c2, rfl⟩ := hO2.shape
  obtain ⟨q, hq⟩ : ∃ q, q = out.length := ⟨_, rfl⟩
  have HS2 := Lib.hid hO2.sl
  have HB2 := Lib.hid (below_keep HB1.out hb2)
  have HW2 := Lib.hid hb2
  have HQ := Lib.hid hq
  have hmt2 : covB out D (d : Int) = decide (0 < na) := by
    rw [Bool.eq_iff_iff, covB_iff, hmt D (d : Int) hD1, decide_eq_true_eq, HNE.out]
  have HMT := Lib.hid hmt2
  rw [← hq] at HS2 hol ⊢
  clear hO2 hb2 hq hmt hmt2 HCV
  go_wp2_with fail
  go_loopw [25, 10] (fun i o wr => ∃ (k : Nat) (mb : Bool), k ≤ q ∧ i = .int .i64 (k : Int) ∧ o = .bool mb ∧ Hid (mb = covB (out.take k) D (d : Int)) ∧ Hid (Below w2.heap.size w2 wr)) (fun i _ _ => q - (intOf i).toNat)
  case atStart => exact ⟨0, false, Nat.zero_le _, rfl, rfl, Lib.hid rfl, Lib.hid (.refl _ _)⟩
  case round =>
    obtain ⟨k, mb, hk, rfl, rfl, HMB, HB⟩ := hrel
    obtain ⟨wo, rfl⟩ : ∃ wo : World, wo = wr := ⟨_, rfl⟩
    by_cases hlt : k < q
    · obtain ⟨x, hx⟩ := lget_some out k (by rw [← HQ.out]; exact hlt)
      obtain ⟨b, o, rfl, p0, p1⟩ := prds_at (HS2.out.below HB.out) hx
      have HT := Lib.hid (covB_snoc (D := D) (d := (d : Int)) hx)
      obtain ⟨lo, hi⟩ := x
      dsimp only at p0 p1 HT
      have hg := World.alloc_heap_new wo (.cells #[.int .i64 lo, .int .i64 hi] 48)
      obtain ⟨d0, d1', _, _⟩ := box_two hg
      have HB3 := Lib.hid (below_keep HB.out (below_alloc wo (.cells #[.int .i64 lo, .int .i64 hi] 48)))
      have hw1 : IntKind.i64.wrap ((d : Int) - D) = (d : Int) - D := IntWalk.i64_in _ (by omega)
      have hw2 : IntKind.i64.wrap ((d : Int) - D + 1) = (d : Int) - D + 1 := IntWalk.i64_in _ (by omega)
      clear hx hg HB
      cases mb
      · by_cases hc1 : lo ≤ (d : Int)
        · by_cases hc2 : (d : Int) - D + 1 < hi
          · have HR : Hid (true = covB (out.take (k + 1)) D (d : Int)) := Lib.hid (by rw [HT.out, decide_eq_true hc1, decide_eq_true hc2]; simp)
            go_wp2_with fail
            go_roundw
            case rel => exact ⟨k + 1, true, by omega, by go_num, rfl, HR, HB3⟩
            case measure => simp [intOf]; omega
          · have HR : Hid (false = covB (out.take (k + 1)) D (d : Int)) := Lib.hid (by rw [HT.out, ← HMB.out, decide_eq_false hc2]; simp)
            go_wp2_with fail
            go_roundw
            case rel => exact ⟨k + 1, false, by omega, by go_num, rfl, HR, HB3⟩
            case measure => simp [intOf]; omega
        · have HR : Hid (false = covB (out.take (k + 1)) D (d : Int)) := Lib.hid (by rw [HT.out, ← HMB.out, decide_eq_false hc1]; simp)
          go_wp2_with fail
          go_roundw
          case rel => exact ⟨k + 1, false, by omega, by go_num, rfl, HR, HB3⟩
          case measure => simp [intOf]; omega
      · have HR : Hid (true = covB (out.take (k + 1)) D (d : Int)) := Lib.hid (by rw [HT.out, ← HMB.out]; rfl)
        go_wp2_with fail
        go_roundw
        case rel => exact ⟨k + 1, true, by omega, by go_num, rfl, HR, HB3⟩
        case measure => simp [intOf]; omega
    · have hkk : out.take k = out := List.take_of_length_le (by rw [← HQ.out]; omega)
      have HME : Hid (mb = decide (0 < na)) := Lib.hid (by rw [HMB.out, hkk, HMT.out])
      have HBo := Lib.hid (below_keep HB2.out HB.out)
      have HMV := Lib.hid (moving_any _ (.slice none 0 0) l [] 0 D 1 wo ((HL1.out.below HW2.out).below HB.out) (Sl.nil _ _ _ _ _) (by rw [← HM.out]; omega) (by decide) (by simp) H64.out)
      obtain ⟨L, hL⟩ : ∃ L, L = movL l [] 0 D 1 := ⟨_, rfl⟩
      rw [← hL] at HMV
      have HNL : Hid (valueL L (d : Int) = gint (na : Int)) := Lib.hid (by rw [hL]; exact HNA.out)
      clear hkk HMB HB hL HNA
      go_wp2_with fail
      refine HMV.out.mono ?_
      rintro _ w3 ⟨v3, rfl, hO3, hb3⟩
      have HV3 := Lib.hid (value18_any _ L (d : Int) w3 hO3.sl)
      rw [HNL.out] at HV3
      unfold aggG gint at HV3
      dsimp only at HV3
      obtain ⟨a3, c3, rfl⟩ := hO3.shape
      have HB3 := Lib.hid (below_keep HBo.out hb3)
      clear hO3 hb3 HMV HNL
      go_wp2_with fail
      refine HV3.out.mono ?_
      rintro _ w4 ⟨rfl, hb4⟩
      obtain ⟨wb, hwb⟩ : ∃ wb, wb = w4.alloc (.cells #[.int .i64 1, .int .i64 (na : Int), .string ⟨#[]⟩] 41) := ⟨_, rfl⟩
      have hXb : BoxV wb w4.heap.size ⟨1, na, ⟨#[]⟩⟩ := by rw [hwb]; exact World.alloc_heap_new _ _
      have HXb := Lib.hid hXb
      have HBb := Lib.hid (below_keep (below_keep HB3.out hb4) (by rw [hwb]; exact below_alloc _ _ : Below w4.heap.size w4 wb))
      have HWB := Lib.hid hwb
      have HAW := Lib.hid (awake18_any wb)
      clear hb4 hwb hXb HV3 HB3
      go_wp2_with fail
      rw [← HWB.out]
      refine HAW.out.mono ?_
      rintro _ w5 ⟨rfl, hb5⟩
      obtain ⟨⟨r0, r1, r2⟩, _⟩ := (HXb.out.below hb5).cells
      have HB5 := Lib.hid (below_keep HBb.out hb5)
      clear hb5 HXb HBb HAW HWB
      by_cases hz : 0 < na
      · have em : mb = true := by rw [HME.out]; exact decide_eq_true hz
        have hzI : (0 : Int) < (na : Int) := by omega
        have hzd : decide ((0 : Int) < (na : Int)) = true := decide_eq_true hzI
        subst em
        go_wp2_with fail
        go_ret
        exact ⟨rfl, HB5.out⟩
      · have em : mb = false := by rw [HME.out]; exact decide_eq_false hz
        have hzI : ¬ (0 : Int) < (na : Int) := by omega
        have hzd : decide ((0 : Int) < (na : Int)) = false := decide_eq_false hzI
        have hzd2 : decide (0 < na) = false := decide_eq_false hz
        subst em
        go_wp2_with fail
        go_ret
        exact ⟨rfl, HB5.out⟩
end Go.Proofs.Ytfmbbfidjcgeiaa
