/- A part of the proofs: Wcl, LawCLin. No condition beside sizes and tables that read as laid. -/
import Derived.Test.YtnfccpkmaebbiaaDoorMgAc
import Derived.Test.YtnfccpkmaebbiaaDoorMgAa
import Derived.Test.YtnfccpkmaebbiaaDoorMgAd
import Derived.Test.YtnfccpkmaebbiaaDoorCards
import Derived.Test.YtnfccpkmaebbiaaDoorTie
namespace Go.Proofs.YtnfccpkmaebbiaaDoor
open Go.RowKit Go.Lib

/-- The lineage of one element is stored anew. -/
theorem lin_put' {w : World} {B g n c k : Nat} {l : List Tup} {x : Tup} {u : Value} {z : List Int} (h : Own tupE w B (.slice (some ⟨g, 0, none⟩) n c) l) (hn : l.length = n) (hk : l[k]? = some x) (hu : Sl intE w (fun m => some m = some g) u z) :
    Own tupE (w.setCell ⟨g, k * 4 + 3, none⟩ u) B (.slice (some ⟨g, 0, none⟩) n c) (l.set k { x with lin := z }) ∧ w.grownBy (w.setCell ⟨g, k * 4 + 3, none⟩ u) (some g) := by
  have hk1 := (List.getElem?_eq_some_iff.1 hk).1
  refine Own.put_at (E := tupE) (us := [u]) (j := 3) h hn (by omega) (show 3 + 1 ≤ 4 by decide) fun y cs hy hcs => ?_
  rw [hk] at hy
  cases hy
  obtain ⟨v, u0, rfl, h1, _⟩ := hcs
  exact ⟨v, u, rfl, h1, hu⟩
/-- The same tuples but for their lineages, with keys. -/
structure LinOf (l m : List Tup) : Prop where
  bare' : m.map bare = l.map bare
  key : ∀ x ∈ m, Keyable x.row
theorem LinOf.len {l m : List Tup} (h : LinOf l m) : m.length = l.length := by have := congrArg List.length h.bare'; simpa using this
theorem LinOf.set {l m : List Tup} (h : LinOf l m) {k : Nat} {x : Tup} (hk : m[k]? = some x) {z : Int} (hz : In64 z) : LinOf l (m.set k { x with lin := [z] }) := by
  refine ⟨?_, fun y hy => ?_⟩
  · rw [List.map_set, ← h.bare']
    obtain ⟨hk1, rfl⟩ := List.getElem?_eq_some_iff.1 hk
    have e : bare { m[k] with lin := [z] } = (m.map bare)[k]'(by simpa using hk1) := by rw [List.getElem_map]; rfl
    rw [e, List.set_getElem_self]
  · rcases List.mem_or_eq_of_mem_set hy with hy | rfl
    · exact h.key y hy
    · have hx := h.key x (List.mem_of_getElem? hk)
      exact ⟨hx.vals, by intro i hi; simp [Tup.row] at hi; subst hi; exact hz, hx.nv, by simp [Tup.row], hx.key⟩
theorem nf_norm {l S T T' : List Tup} (h : IsNF l S) (hT : IsNF (l.map bare) T) (hT' : IsNF (S.map bare) T') : T' = T := by
  refine hT'.same hT fun t => ?_
  rw [atDay_bare, atDay_bare]
  exact (h.day t).map _
set_option maxHeartbeats 8000000 in
set_option maxRecDepth 100000 in
theorem clin_walk (v : Value) (xs : List U5) (s : Nat) (w : World) (hv : Sl u5E w free v xs) (hok : ∀ x ∈ xs, x.ok) (hs : s < 256) (hT : Pow w) :
    Calls Tryd.prog 4 #[v, .int .u8 (s : Int)] w fun e w' => e = .returned (.bool true) ∧ Below w.heap.size w w' := by
  have HTU := Lib.hid (tuples_any v xs 16 (by decide) w hv hok)
  have hk := tups_keyable xs 16
  have hl := tupsOf_length xs 16
  obtain ⟨l, hl0⟩ : ∃ l, l = tupsOf xs 16 := ⟨_, rfl⟩
  rw [← hl0] at HTU hk hl
  have HK := Lib.hid hk
  have HT := Lib.hid hT
  have hsw : IntKind.i64.wrap (s : Int) = s := IntWalk.i64_in _ (by omega)
  clear hv hok hk hT hl0
  go_enter Tryd.func4, Tryd.ntmps4
  go_wp2_with fail
  refine HTU.out.mono ?_
  rintro _ w1 ⟨vl, rfl, hO1, hb1⟩
  obtain ⟨al, cl, rfl⟩ := hO1.shape
  obtain ⟨n, hn⟩ : ∃ n, n = l.length := ⟨_, rfl⟩
  have HN := Lib.hid hn
  have hS1 := hO1.sl
  rw [← hn] at hS1 hl ⊢
  have HS1 := Lib.hid hS1
  have HS1' : Hid (Sl tupE w1 (fun k => some k = (Value.slice none 0 0).ownBlock) (.slice al n cl) l) := Lib.hid (hS1.mono fun _ _ h => by simp [Value.ownBlock] at h)
  have HB1 := Lib.hid hb1
  clear hO1 hb1 HTU hS1 hn
  go_wp2_with (at_builtin; refine wpList_join rfl (.const (.slice none 0 0)) (.tmp 11) 23 rfl tupE Tryd.underlying23 w1.heap.size (.slice none 0 0) (.slice al n cl) [] l rfl rfl (Own.nil _ _ _) HS1'.out (by have := HN.out; unfold maxLen; simp; omega) (by have := HN.out; show _ * 64 ≤ _; simp; omega) (Nat.le_refl _) n (by have := HN.out; simp; omega) ?_; intro a6 c6 w2 hJ)
  have HO2 : Hid (Own tupE w2 w1.heap.size (.slice a6 n c6) l) := Lib.hid hJ.own
  have HB12 := Lib.hid hJ.below
  clear hJ HS1'
  go_wp2_with fail
  go_loopw [15] (fun i wr => ∃ (k : Nat) (m : List Tup), k ≤ n ∧ i = .int .i64 k ∧ Hid (LinOf l m) ∧ Own tupE wr w1.heap.size (.slice a6 n c6) m ∧ Hid (Below w1.heap.size w1 wr)) (fun i _ => n - (RowKit.intOf i).toNat)
  case atStart => exact ⟨0, l, Nat.zero_le _, rfl, Lib.hid ⟨rfl, HK.out⟩, HO2.out, HB12⟩
  case round =>
    obtain ⟨k, m, hk, rfl, HM, hO, HB⟩ := hrel
    obtain ⟨wp, rfl⟩ : ∃ wp : World, wp = wr := ⟨_, rfl⟩
    have hml : m.length = n := by rw [HM.out.len, ← HN.out]
    by_cases hlt : k < n
    · have hsh := hO.shape_pos (by omega)
      rw [hml] at hsh
      obtain ⟨g, c', e⟩ := hsh
      cases e
      obtain ⟨x, hat⟩ := lget_some m k (by omega)
      obtain ⟨cs, ⟨v', u', rfl, _⟩, hc⟩ := hO.at hat
      have p3 : wp.cell? ⟨g, k * 4 + 3, none⟩ = some u' := hc 3 _ rfl
      have f3 := hO.frozen hml (k * 4 + 3)
      obtain ⟨p, hp⟩ : ∃ p : Nat, p = k * s := ⟨_, rfl⟩
      have hpl : p ≤ 16 * 256 := by rw [hp]; exact Nat.mul_le_mul (by omega) (by omega)
      have hks : (k : Int) * (s : Int) = (p : Int) := by rw [hp]; simp
      have i1 : IntKind.i64.wrap (p : Int) = p := IntWalk.i64_in _ (by omega)
      have i2 : IntKind.i64.wrap (1 + (p : Int)) = 1 + (p : Int) := IntWalk.i64_in _ (by omega)
      have hba := below_alloc wp (.cells #[.int .i64 (1 + (p : Int))] 3)
      have f4 := (hba.frozen (World.block_lt_of_cell? _ _ p3)).trans f3
      have p4 := cell_keep hba p3
      have hgl := hO.lt g rfl
      obtain ⟨hO2, hg2⟩ := lin_put' (u := .slice (some ⟨wp.heap.size, 0, none⟩) 1 1) (z := [1 + (p : Int)]) (hO.below hba) hml hat (Sl.of_block (n := 1) (m := 1) (World.alloc_heap_new wp _) (Els.one rfl) (fun h => by cases h; omega) rfl (by simp) (by simp))
      have HM2 := Lib.hid (HM.out.set hat (z := 1 + (p : Int)) (by unfold In64; omega))
      have hsw2 := World.setCell_alloc_past (w := wp) (.cells #[.int .i64 (1 + (p : Int))] 3) g (k * 4 + 3) (.slice (some ⟨wp.heap.size, 0, none⟩) 1 1) hgl.2
      have HB2 : Hid (Below w1.heap.size w1 ((wp.alloc (.cells #[.int .i64 (1 + (p : Int))] 3)).setCell ⟨g, k * 4 + 3, none⟩ (.slice (some ⟨wp.heap.size, 0, none⟩) 1 1))) := (below_keep HB.out hba).setCell (p := ⟨g, k * 4 + 3, none⟩) hgl.1 _
      rw [hsw2] at hO2 HB2
      have HO3 := Lib.hid hO2
      clear hsw2 hO hO2 hg2 hc hat hml hba p3 f3 hp
      go_wp2_with fail
      go_roundw
      case rel => exact ⟨k + 1, _, by omega, by go_num, HM2, HO3.out, HB2⟩
      case measure => simp [RowKit.intOf]; omega
    · have HO := Lib.hid hO.sl
      have HML := Lib.hid hml
      have HLp := Lib.hid (HS1.out.below HB.out)
      have HBp := Lib.hid (below_keep HB1.out HB.out)
      have HC := Lib.hid (coalesce_any _ l wp HLp.out (by rw [← HN.out]; omega) HK.out (HT.out.below HBp.out))
      clear hO hml
      go_wp2_with fail
      refine HC.out.mono ?_
      rintro _ w3 ⟨T, hT, hTl, vT, rfl, hO3, hb3⟩
      obtain ⟨aT, cT, rfl⟩ := hO3.shape
      have HNF := Lib.hid hT
      have HTL := Lib.hid hTl
      have HKT : Hid (∀ x ∈ T, Keyable x.row) := Lib.hid (hT.keyable (bares_keyable HK.out))
      have HT3 := Lib.hid hO3.sl
      have HO3 := Lib.hid (HO.out.below hb3)
      have HL3 := Lib.hid (HLp.out.below hb3)
      have HB3 := Lib.hid (below_keep HBp.out hb3)
      have HAW := Lib.hid (awake11_any w3 (HT.out.below HB3.out))
      clear hT hTl hO3 hb3 HC
      go_wp2_with fail
      refine HAW.out.mono ?_
      rintro _ w4 ⟨rfl, hb4⟩
      have HT4 := Lib.hid (HT3.out.below hb4)
      have HL4 := Lib.hid (HL3.out.below hb4)
      have HB4 := Lib.hid (below_keep HB3.out hb4)
      have HC := Lib.hid (coalesce_any _ m w4 (HO3.out.below hb4) (by rw [HML.out]; omega) HM.out.key (HT.out.below HB4.out))
      clear hb4 HAW
      go_wp2_with fail
      refine HC.out.mono ?_
      rintro _ w5 ⟨T2, hT2, _, v2, rfl, hO5, hb5⟩
      obtain ⟨a2, c2, rfl⟩ := hO5.shape
      rw [HM.out.bare'] at hT2
      obtain rfl : T2 = T := hT2.unique HNF.out
      have HT5 := Lib.hid (HT4.out.below hb5)
      have HL5 := Lib.hid (HL4.out.below hb5)
      have HB5 := Lib.hid (below_keep HB4.out hb5)
      have HSM := Lib.hid (sameTups_any _ _ T2 T2 w5 hO5.sl HT5.out)
      rw [sameTups_iff.2 rfl] at HSM
      clear hT2 hO5 hb5 HC
      go_wp2_with fail
      refine HSM.out.mono ?_
      rintro _ w6 ⟨rfl, hb6⟩
      have HT6 := Lib.hid (HT5.out.below hb6)
      have HB6 := Lib.hid (below_keep HB5.out hb6)
      have HNM := Lib.hid (normalize_any _ l w6 (HL5.out.below hb6) (by rw [← HN.out]; omega) HK.out (HT.out.below HB6.out))
      clear hb6 HSM
      go_wp2_with fail
      refine HNM.out.mono ?_
      rintro _ w7 ⟨S, hS, hSl, v7, rfl, hO7, hb7⟩
      obtain ⟨a7, c7, rfl⟩ := hO7.shape
      have HT7 := Lib.hid (HT6.out.below hb7)
      have HB7 := Lib.hid (below_keep HB6.out hb7)
      have HC := Lib.hid (coalesce_any _ S w7 hO7.sl (by have := HN.out; omega) (hS.keyable HK.out) (HT.out.below HB7.out))
      have HSN := Lib.hid hS
      clear hS hSl hO7 hb7 HNM
      generalize S.length = nS at HC ⊢
      go_wp2_with fail
      refine HC.out.mono ?_
      rintro _ w8 ⟨T3, hT3, _, v8, rfl, hO8, hb8⟩
      obtain ⟨a8, c8, rfl⟩ := hO8.shape
      obtain rfl : T3 = T2 := nf_norm HSN.out HNF.out hT3
      have HT8 := Lib.hid (HT7.out.below hb8)
      have HB8 := Lib.hid (below_keep HB7.out hb8)
      have HSM := Lib.hid (sameTups_any _ _ T3 T3 w8 hO8.sl HT8.out)
      rw [sameTups_iff.2 rfl] at HSM
      clear hT3 hO8 hb8 HC
      go_wp2_with fail
      refine HSM.out.mono ?_
      rintro _ w9 ⟨rfl, hb9⟩
      have HT9 := Lib.hid (HT8.out.below hb9)
      have HB9 := Lib.hid (below_keep HB8.out hb9)
      have HC := Lib.hid (coalesce_any _ T3 w9 HT9.out (by have := HTL.out; have := HN.out; omega) HKT.out (HT.out.below HB9.out))
      clear hb9 HSM
      go_wp2_with fail
      refine HC.out.mono ?_
      rintro _ w10 ⟨T4, hT4, _, v10, rfl, hO10, hb10⟩
      obtain ⟨a10, c10, rfl⟩ := hO10.shape
      obtain rfl : T4 = T3 := hT4.unique (nf_twice HNF.out)
      have HB10 := Lib.hid (below_keep HB9.out hb10)
      have HSM := Lib.hid (sameTups_any _ _ T4 T4 w10 hO10.sl (HT9.out.below hb10))
      rw [sameTups_iff.2 rfl] at HSM
      clear hT4 hO10 hb10 HC
      go_wp2_with fail
      refine HSM.out.mono ?_
      rintro _ w11 ⟨rfl, hb11⟩
      have HB11 := Lib.hid (below_keep HB10.out hb11)
      clear hb11
      go_wp2_with fail
      go_ret
      exact ⟨rfl, HB11.out⟩
end Go.Proofs.YtnfccpkmaebbiaaDoor

namespace Go.Proofs.YtnfccpkmaebbiaaDoor
open Go.ChangeShapes Go.WideShapes Go.ChangeAt Go.RowKit
open Go.ChangeMaps (open_string)

set_option maxRecDepth 100000 in
theorem clin_contract (H : Type) (enc : TypeId × Value → H) (W : World) (base : Nat) (args : Array Value) (ds gs : List (DataW H)) (before : List MemPlace)
    (hval : ∀ (j : Nat) t v, Tryd.f4.params[j]? = some t → args[j]? = some v → Value.okWide Tryd.prog W .any base t v)
    (hW : DataW.Whole enc Tryd.prog Tryd.f4.params.toList Rows.coalesceLineageSpec.vars false W args.toList ds gs before) (hT : Pow W) :
    Calls Tryd.prog 4 args W fun e W' => ∃ v, e = .returned v ∧ Rows.coalesceLineageSpec.post enc Tryd.prog Tryd.f4 false true false false W args v W' := by
  have hW' := hW
  obtain ⟨p, q, hA0, hV, rfl, hfz, hnd⟩ := hW
  have hA : DataW.TrodAll enc Tryd.prog W 0 (fun _ => true) true Tryd.f4.params.toList args.toList ds p := hA0
  rw [Tryd.params4] at hA hval
  obtain ⟨v0, vs0, d0, ds0, p0, q0, hargs, rfl, rfl, h0, r0⟩ := trodAll_cons hA
  obtain ⟨v1, vs1, d1, ds1, p1, q1, rfl, rfl, rfl, h1, r1⟩ := trodAll_cons r0
  obtain ⟨rfl, rfl, rfl⟩ := trodAll_nil r1
  obtain rfl : args = #[v0, v1] := by cases args; simp_all
  obtain ⟨rfl, rfl⟩ := trodVars_none hV
  obtain ⟨l0, hl0, hp0⟩ := open_sl u5E U5.ok Tryd.underlying22 cells_u5 (hval 0 22 v0 rfl rfl) open_u5_el h0
  obtain ⟨z1, rfl, rfl, rfl, wz1⟩ := open_int Tryd.underlying5 (hval 1 5 v1 rfl rfl) h1; obtain ⟨x1, rfl, b1⟩ := u8_of wz1
  refine (clin_walk v0 l0 x1 W hl0 hp0 b1 hT).mono fun e W' ⟨he, hb⟩ => ⟨_, he, ?_⟩
  refine law_post rfl rfl (by intro t ht; rw [Tryd.params4] at ht; simp at ht; rcases ht with rfl | rfl <;> exact ⟨by kernel_rfl, of_decide_eq_true (by kernel_rfl)⟩) rfl hW' hb

theorem clin_reads (os : Os) {H : Type} (enc : TypeId × Value → H) : ∃ places, DataW.whole enc Tryd.prog ((laidWorld os).forCall (fun _ _ => 0) ⟨#[], #[.slice none 0 0, .int .u8 0], []⟩).memory Tryd.f4.params.toList Rows.coalesceLineageSpec.vars false (#[.slice none 0 0, .int .u8 0] : Array Value).toList 8 = some ([.nil, .lit (.int .u8 0)], [], places) :=
  ⟨[], by kernel_rfl⟩

set_option maxRecDepth 100000 in
theorem clin_lifted (os : Os) (started : os.Started) (H : Type) (enc : TypeId × Value → H) (F : Stop.Interp) :
    ReturnsInHanded {} Tryd.checked os 4 .any ((OpenSpec.ofChange Rows.coalesceLineageSpec).preRow enc Tryd.prog Tryd.f4 Rows.coalesceLineageRow.domain false Rows.coalesceLineageRow.laid) (((OpenSpec.ofChange Rows.coalesceLineageSpec).at F).post enc Tryd.prog Tryd.f4 false true false false) := by
  obtain ⟨places, hx⟩ := clin_reads os enc
  refine returnsInHanded_of_row (C := Tryd.checked) (s := OpenSpec.ofChange Rows.coalesceLineageSpec) own started (by kernel_rfl) Tryd.func4
    (witness_row_at (enc := enc) (C := Tryd.checked) false (laidWorld os) #[.slice none 0 0, .int .u8 0] rfl (by kernel_rfl) (by kernel_rfl) (by kernel_rfl)
      (OpenSpec.preRow_of_cond 8 hx (by kernel_rfl) (fun k hk => by cases hk) (by kernel_rfl) (laid_met os _))) ?_
  intro W base args ds gs before hval hW _ hcond _ hlaid hsh _
  exact clin_contract H enc W base args ds gs before hval hW (pow_of_laid hlaid)

theorem clin_said : Rows.CoalesceLineageSaid :=
  OpenClaim.holds_of_cond 4 Tryd.f4 rfl rfl rfl rfl rfl rfl rfl ⟨rfl, rfl, rfl, rfl, rfl⟩ rfl rfl rfl rfl rfl (by kernel_rfl) Tryd.func4 (by kernel_rfl)
    (of_decide_eq_true (by kernel_rfl)) (by unfold Func.isWrapper; first | (rw [if_pos (by decide +kernel)]; kernel_rfl) | (rw [if_neg (by decide +kernel)]; exact ⟨rfl, rfl⟩))
    (fun os started H enc _ F => by rw [OpenClaim.pre_eq_preRow]; exact clin_lifted os started H enc F)

/-- No parameter wants a stand-in; the program's own looks are off. -/
theorem clin_plain (f : FuncId) (fn : Func) (hf : Tryd.pinned.checked.prog.funcNamed "annalist/annalistlaw11.CoalesceLineage" = some f) (hfn : Tryd.pinned.checked.prog.funcs[f]? = some fn) :
    false = Tryd.pinned.checked.prog.looks [] ∧ ∀ (j : Nat) t, fn.params[j]? = some t → Tryd.pinned.checked.prog.wantsStandIn t = false := by
  obtain rfl : f = 4 := Option.some.inj ((show Tryd.prog.funcNamed "annalist/annalistlaw11.CoalesceLineage" = some 4 by kernel_rfl).symm.trans hf) |>.symm
  obtain rfl : fn = Tryd.f4 := (Option.some.inj (Tryd.func4.symm.trans hfn)).symm
  refine ⟨by kernel_rfl, fun j t ht => ?_⟩
  rw [Tryd.params4] at ht
  have hm := Array.mem_of_getElem? ht
  simp at hm
  rcases hm with rfl | rfl
  · exact (show Tryd.prog.wantsStandIn 22 = false by kernel_rfl)
  · exact (show Tryd.prog.wantsStandIn 5 = false by kernel_rfl)

/-- The card. -/
theorem clin_card : Rows.CoalesceLineageCardSaid :=
  Claim7.holds_tied_plain_at .later [] _ _ _ _ clin_said (fun _ h => by cases h) (by kernel_rfl) (fun _ h => by cases h) coalesceLineage_row_tie rfl ⟨rfl, rfl⟩ (by kernel_rfl) rfl clin_plain (by kernel_rfl)
end Go.Proofs.YtnfccpkmaebbiaaDoor
