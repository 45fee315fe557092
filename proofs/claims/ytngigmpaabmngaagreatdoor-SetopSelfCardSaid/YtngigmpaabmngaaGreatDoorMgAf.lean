/- A part of the proofs: Cmb, Sop1, SopA, Sam, Vav, Tvd, Awt, Aw5, SplK, AliP, Spq, SplL, Wsl, Bmu, Wbl, Wdo, Lift, OpenG, LaidP, Open, OpenU, OpenB. No condition beside sizes and tables that read as laid. -/
import Derived.Test.YtngigmpaabmngaaGreatDoorMgAe
import Derived.Test.YtngigmpaabmngaaGreatDoorMgAd
import Derived.Test.YtngigmpaabmngaaGreatDoorMgAb
import Derived.Test.YtngigmpaabmngaaGreatDoorMgAc
import Derived.Test.YtngigmpaabmngaaGreatDoorMgAa
import Derived.Test.YtngigmpaabmngaaGreatDoorRows
import Derived.ProofKit
import Derived.OpenShut
import Derived.Carry
import Derived.Deep.DeepHandedRow
import Derived.Lib.LaidTab
import Derived.Shelf.Vars
import Derived.Deep.Slices
import Derived.Test.YtngigmpaabmngaaGreatDoorChecked
import Derived.Stop.LaidErr
import Derived.LaidLaws
import Derived.Lib.Strings
namespace Go.Proofs.YtngigmpaabmngaaGreatDoor
open Go.RowKit Go.Lib Go.Maps

theorem Sl.ofWG {w0 w : World} {G : Nat → Prop} {v : Value} {l : List Tup} (h : Sl (tupW w0) w G v l) (hb : Below w0.heap.size w0 w) (hG : ∀ k, G k → w0.heap.size ≤ k) : Sl tupE w G v l := by
  obtain ⟨h1, a, c, h2, h3, h4⟩ := h
  refine ⟨h1, a, c, h2, h3, fun hn => ?_⟩
  obtain ⟨b, o, h5, h7, h6⟩ := h4 hn
  refine ⟨b, o, h5, h7, fun i x hx => ?_⟩
  obtain ⟨cs, ⟨v', u', e, h8, h9⟩, h10⟩ := h6 i x hx
  exact ⟨cs, ⟨v', u', e, ((h8.old (Nat.le_refl _)).below hb).mono fun k _ hk => hG k hk, ((h9.old (Nat.le_refl _)).below hb).mono fun k _ hk => hG k hk⟩, h10⟩
set_option maxHeartbeats 16000000 in
set_option maxRecDepth 100000 in
theorem combine_any (fid : Nat) (f : Nat → Nat → Nat) (hE : ∀ (args : Array Value) (W : World), (callFunc fid args).run Tryz.prog W = .ok (.enter fid args) W) (hf0 : f 0 0 = 0) (hfm : ∀ m n, f m n ≤ m + n)
    (hF : ∀ (m n : Nat) (W : World), m ≤ 100000 → n ≤ 100000 → Calls Tryz.prog fid #[.int .i64 m, .int .i64 n] W fun e w' => e = .returned (.int .i64 (f m n : Nat)) ∧ Below W.heap.size W w')
    (v u : Value) (a b : List Tup) (q : Nat) (w : World) (hv : Tups w v a) (hu : Tups w u b) (hK : ∀ x ∈ a ++ b, Keyable x.row) (hq : ∀ x ∈ a ++ b, x.lin.length ≤ q) (hN : (a.length + b.length) * q ≤ 1000)
    (hS : ((a.length + b.length) * 2) * (a.length + b.length) ≤ 100000) (hT : Pow w) :
    Calls Tryz.prog 56 #[v, u, .func (.func fid) #[] #[]] w fun e w' => ∃ T, NFS f a b T ∧ T.length ≤ 100000 ∧ RetOwn tupE w T e w' := by
  have hn1 : a.length + b.length ≤ 1000 := by
    rcases Nat.lt_or_ge 1000 (a.length + b.length) with h | h
    · have := Nat.mul_le_mul (Nat.mul_le_mul_right 2 (Nat.le_of_lt h)) (Nat.le_of_lt h); omega
    · exact h
  have HCL := Lib.hid (classes_any v u a b w hv hu (by omega) (by omega) (fun x hx => hK x (List.mem_append.2 (.inl hx))) (fun x hx => hK x (List.mem_append.2 (.inr hx))) hT)
  have HSZ : Hid (∀ k vs, (segPre f a b vs k).length ≤ 100000) := Lib.hid (fun k vs => Nat.le_trans (segPre_length hfm a b vs k) hS)
  have HSO : Hid (∀ L out, CmbI f a b L out → out.length ≤ 100000) := Lib.hid (fun L out h => Nat.le_trans h.size hS)
  have HST : Hid (∀ L out vs, CmbI f a b L out → L (keyL vs) = true → (∃ x ∈ a ++ b, x.vals = vs) → CmbI f a b (fun z => L z && !(z == keyL vs)) (out ++ clsOut f a b vs)) := Lib.hid (fun L out vs h hL hs => h.step hf0 hfm hL hK hq hN hs)
  have HSI : Hid (∀ vs, (sideL a vs).length ≤ 1000 ∧ (sideL b vs).length ≤ 1000) := Lib.hid (fun vs => ⟨Nat.le_trans (sideL_len _ _) (by omega), Nat.le_trans (sideL_len _ _) (by omega)⟩)
  have HLQ : Hid (∀ vs t, (linD (sideL a vs) t).length + (linD (sideL b vs) t).length ≤ 1000) := Lib.hid (fun vs t => by
    have h1 := linD_lenq (l := sideL a vs) (q := q) (fun x hx => hq x (List.mem_append.2 (.inl (sideL_sub hx)))) t
    have h2 := linD_lenq (l := sideL b vs) (q := q) (fun x hx => hq x (List.mem_append.2 (.inr (sideL_sub hx)))) t
    have h3 := Nat.mul_le_mul_right q (sideL_len a vs)
    have h4 := Nat.mul_le_mul_right q (sideL_len b vs)
    rw [Nat.add_mul] at hN
    omega)
  have HKS : Hid ((∀ vs, ∀ x ∈ sideL a vs, x.lin.length ≤ 1000) ∧ (∀ vs, ∀ x ∈ sideL b vs, x.lin.length ≤ 1000)) := Lib.hid ⟨fun vs x hx => (hK x (List.mem_append.2 (.inl (sideL_sub hx)))).nl, fun vs x hx => (hK x (List.mem_append.2 (.inr (sideL_sub hx)))).nl⟩
  have HF := Lib.hid hF
  have HEN := Lib.hid hE
  have HT := Lib.hid hT
  obtain ⟨a1, c1, rfl⟩ := hv.shape
  obtain ⟨a2, c2, rfl⟩ := hu.shape
  have HFM := Lib.hid hfm
  have HF0 := Lib.hid hf0
  clear hv hu hK hq hN hS hF hT hfm hf0 hE
  generalize a.length = na at HCL ⊢
  generalize b.length = nb at HCL ⊢
  go_enter Tryz.func56, Tryz.ntmps56
  go_wp2_with fail
  refine HCL.out.mono ?_
  rintro _ w1 ⟨rfl, C, hM1, hC1, hb1⟩
  have HM1 := Lib.hid hM1
  have HC1 := Lib.hid hC1
  have HB1 := Lib.hid hb1
  have hz1 := hM1.lt
  clear hM1 hC1 hb1 HCL hn1
  go_wp2_with (at_range; refine wpList_rangeSV Tryz.underlying129 _ rfl _ rfl w.heap.size 200000 (clsF C) rfl HM1.out ?_; intro w2 cnt0 hrg0 hg0 hs0)
  go_frame
  have hb2 : Below w1.heap.size w1 w2 := (Below.refl _ _).grown hg0 (Nat.le_refl _) (fun j hj => by cases hj)
  have HBO2 := Lib.hid hb2
  have HB2 := Lib.hid (below_keep HB1.out hb2)
  have HRG0 := Lib.hid hrg0
  have HZ2 := Lib.hid hs0
  have hz2 : w1.heap.size < w2.heap.size := by omega
  have HST0 : Hid (CmbI f a b (fun s => (clsF C s).isSome) []) := Lib.hid (CmbI.start HF0.out (fun x hx => by
    have := HC1.out.dom false x hx
    unfold clsF
    rw [Option.isSome_map]
    exact this) (fun x hx => by
    have := HC1.out.dom true x hx
    unfold clsF
    rw [Option.isSome_map]
    exact this))
  clear hrg0 hg0 hs0 hb2 HF0
  go_loopw [7] (fun o wr => ∃ (L : List UInt8 → Bool) (cnt : Nat) (out : List Tup), RngSV wr w.heap.size w1.heap.size 200000 (clsF C) L cnt ∧ Own (tupE.avoid fun k => k = w1.heap.size) wr (w1.heap.size + 1) o out ∧ Hid (CmbI f a b L out) ∧ Hid (Below w1.heap.size w2 wr)) (fun _ wr => wr.rangeLeft w.heap.size w1.heap.size)
  case atStart => exact ⟨_, _, [], HRG0.out, Own.nil _ _ _, HST0, Lib.hid (.refl _ _)⟩
  case round =>
    obtain ⟨L, cnt, out, hrg, hO, HI, HBR⟩ := hrel
    obtain ⟨w6, rfl⟩ : ∃ w6 : World, w6 = wr := ⟨_, rfl⟩
    obtain ⟨ao, co, rfl⟩ := hO.shape
    have HRG := Lib.hid hrg
    have HO := Lib.hid hO
    have hol := HSO.out L out HI.out
    have HB6 : Hid (Below w.heap.size w w6) := Lib.hid (HB2.out.trans (HBR.out.mono (by omega)))
    clear hrg hO
    go_wp2_with (at_next; refine wpList_nextSV _ rfl _ rfl w.heap.size w1.heap.size 200000 (clsF C) L cnt rfl HRG.out ?_ ?_)
    · intro hdone
      have HD := Lib.hid hdone
      have HN := Lib.hid (normalize_any _ out w6 HO.out.forget.sl hol HI.out.key (HT.out.below HB6.out))
      clear hdone
      generalize out.length = no at HN hol ⊢
      go_wp2_with fail
      refine HN.out.mono ?_
      rintro _ w7 ⟨T, hT, hTl, vT, rfl, hO7, hb7⟩
      obtain ⟨aT, cT, rfl⟩ := hO7.shape
      have HO7 := Lib.hid (hO7.mono (B' := w.heap.size) HB6.out.size)
      have HTT := Lib.hid hT
      have HTL := Lib.hid (Nat.le_trans hTl hol)
      have HB7 : Hid (Below w.heap.size w w7) := Lib.hid (below_keep HB6.out hb7)
      clear hO7 hb7 hT hTl HN
      generalize T.length = nT at HO7 ⊢
      go_wp2_with fail
      go_ret
      exact ⟨T, ⟨out, HI.out.sop.done HD.out, HTT.out⟩, HTL.out, _, rfl, HO7.out, HB7.out⟩
    · intro s cv w7 cnt7 hss hf hL hrg7 hlt7 hg7 hsz7 hen7
      obtain ⟨c, hc, rfl⟩ : ∃ c, C s.data.toList = some c ∧ cv = .pointer (some ⟨c.p, 0, none⟩) := by
        unfold clsF at hf
        obtain ⟨c, h1, h2⟩ := Option.map_eq_some_iff.1 hf
        exact ⟨c, h1, h2.symm⟩
      have hblk := HC1.out.blk _ _ hc
      have hcl := HC1.out.lt hc
      have hbo7 : Below w1.heap.size w1 w7 := HBO2.out.trans (HBR.out.grown hg7 (by have := HBR.out.size; omega) (fun j hj => by cases hj; exact Nat.le_refl _))
      have hHv := HC1.out.vals _ _ hc
      have hH0 := (HC1.out.own _ _ false hc).sl
      have hH1 := (HC1.out.own _ _ true hc).sl
      have hkc := HC1.out.key _ _ hc
      obtain ⟨ix, xx, hx1, hx2⟩ := HC1.out.src _ _ hc
      have HXS : Hid (∃ x ∈ a ++ b, x.vals = c.vs) := Lib.hid ⟨xx, by cases ix; exact List.mem_append.2 (.inl hx1); exact List.mem_append.2 (.inr hx1), hx2⟩
      obtain ⟨p, cvv, css, vs⟩ := c
      dsimp only at hblk hcl hHv hH0 hH1 hkc HXS hen7
      unfold Cls.cells at hblk
      dsimp only at hblk
      have hblk7 := (hbo7.block _ hcl).trans hblk.2
      have HST' := Lib.hid (HST.out L out vs HI.out (by rw [hkc]; exact hL) HXS.out)
      rw [hkc] at HST'
      have hsi := HSI.out vs
      have HLQV := Lib.hid (HLQ.out vs)
      have HK0 := Lib.hid (HKS.out.1 vs)
      have HK1 := Lib.hid (HKS.out.2 vs)
      have HSN := Lib.hid (fun k p q => segPre_snoc f a b vs (k := k) (p := p) (q := q))
      have HSA := Lib.hid (fun k => segPre_all f a b vs (k := k))
      have HSG := Lib.hid (fun k => HSZ.out k vs)
      have HS0 := Lib.hid (segPre_zero f a b vs)
      have hsd0 : sideL a vs = sideL (ab a b false) vs := rfl
      have hsd1 : sideL b vs = sideL (ab a b true) vs := rfl
      rw [← hsd0] at hH0
      rw [← hsd1] at hH1
      generalize sideL a vs = la at hH0 HLQV HK0 HSN HSA hsi hsd0
      generalize sideL b vs = lb at hH1 HLQV HK1 HSN HSA hsi hsd1
      obtain ⟨s0, hs0⟩ : ∃ s0, s0 = css false := ⟨_, rfl⟩
      obtain ⟨s1, hs1⟩ : ∃ s1, s1 = css true := ⟨_, rfl⟩
      rw [← hs0, ← hs1] at hblk7
      rw [← hs0] at hH0
      rw [← hs1] at hH1
      obtain ⟨sa0, sc0, rfl⟩ := hH0.shape
      obtain ⟨sa1, sc1, rfl⟩ := hH1.shape
      obtain ⟨va, vc, rfl⟩ := hHv.shape
      have HBO7 := Lib.hid hbo7
      have hGo : ∀ k, k < w1.heap.size → some k = (Value.slice ao out.length co).ownBlock → False := fun k hk e => by have := (HO.out.lt k e.symm).1; omega
      have hGw : ∀ k, some k = (Value.slice ao out.length co).ownBlock → w.heap.size ≤ k := fun k e => by have := (HO.out.lt k e.symm).1; have := HB1.out.size; omega
      have HG0 : Hid (Sl tupE w7 (fun k => some k = (Value.slice ao out.length co).ownBlock) (.slice sa0 la.length sc0) la) := Lib.hid (((hH0.mono hGo).ofWG HB1.out hGw).below hbo7)
      have HG1 : Hid (Sl tupE w7 (fun k => some k = (Value.slice ao out.length co).ownBlock) (.slice sa1 lb.length sc1) lb) := Lib.hid (((hH1.mono hGo).ofWG HB1.out hGw).below hbo7)
      have HT0 : Hid (Tups w7 (.slice sa0 la.length sc0) la) := Lib.hid HG0.out.free
      have HT1 : Hid (Tups w7 (.slice sa1 lb.length sc1) lb) := Lib.hid HG1.out.free
      have hpo : some p ≠ (Value.slice ao out.length co).ownBlock := fun e => hGo p hcl e
      have HVV := Lib.hid hHv
      have HB7 : Hid (Below w.heap.size w w7) := Lib.hid (below_keep HB1.out hbo7)
      have hp7 : p < w7.heap.size := Nat.lt_of_lt_of_le hcl hbo7.size
      obtain ⟨⟨z0, z1, z2⟩, _⟩ := box_three hblk7
      have HLT7 := Lib.hid hlt7
      have HRG7 := Lib.hid hrg7
      have HL := Lib.hid hL
      have HSS := Lib.hid hss
      have hbr7 : Below w1.heap.size w2 w7 := HBR.out.grown hg7 (by have := HBR.out.size; omega) (fun j hj => by cases hj; exact Nat.le_refl _)
      have HBR7 := Lib.hid hbr7
      have HO7 := Lib.hid (HO.out.else (w' := w7) ⟨by omega, fun k hk hne => hg7.block k hk (fun e => hne (by cases e; rfl))⟩ (fun k hk e => by have := (HO.out.lt k hk).1; cases e; omega))
      have hz6 := HBR.out.size
      have hzz7 : w1.heap.size < w7.heap.size := by omega
      have CC : ∀ W, Below (w7.alloc (.cells #[.slice sa0 la.length sc0, .slice sa1 lb.length sc1] 24)).heap.size (w7.alloc (.cells #[.slice sa0 la.length sc0, .slice sa1 lb.length sc1] 24)) W → Calls Tryz.prog 46 #[.slice (some ⟨w7.heap.size, 0, none⟩) 2 2] W (RetOwn tupE W (la ++ lb)) := fun W hW => by
        obtain ⟨q0, q1, _, _⟩ := box_two (World.alloc_heap_new w7 (.cells #[.slice sa0 la.length sc0, .slice sa1 lb.length sc1] 24))
        exact concatT_any w7.heap.size _ _ la lb _ (cell_keep hW q0) (cell_keep hW q1) ((HT0.out.below (below_alloc _ _)).below hW) ((HT1.out.below (below_alloc _ _)).below hW) (by omega)
      have hlab : (la ++ lb).length ≤ 2000 := by rw [List.length_append]; omega
      have HSB := Lib.hid (bnds_length (la ++ lb))
      have BN := fun (v : Value) (W : World) (h : Tups W v (la ++ lb)) => bnds_any v (la ++ lb) W h (by omega)
      obtain ⟨pts, hpts⟩ : ∃ pts, pts = bnds (la ++ lb) := ⟨_, rfl⟩
      rw [← hpts] at HSN HSA HSB BN
      generalize hlb2 : la ++ lb = lab at CC hlab HSB BN
      generalize hnla : la.length = nla at HT0 HG0 CC z1 hsi hblk7
      generalize hnlb : lb.length = nlb at HT1 HG1 CC z2 hsi hblk7
      have HNLA := Lib.hid hnla
      have HNLB := Lib.hid hnlb
      have CC' := Lib.hid (CC _ (Below.refl _ _).drew)
      have BN' := Lib.hid BN
      have HBLK := Lib.hid hblk7
      clear hs0 hs1 hblk hsd0 hsd1 hkc hx1 hx2 hH0 hH1 hHv hbo7 hlt7 hrg7 hL hss hbr7 hpts hlb2 hnla hnlb CC BN hf hc hblk7 HBR HO hsz7 hg7 hGo hGw
      have HPO := Lib.hid hpo
      clear hpo
      generalize vs.length = nvs at z0 HVV HBLK
      go_upto_region 5 with fail
      have hbb : Below w7.heap.size w7 w7 := .refl _ _
      go_region_held3 (fun W => Below w7.heap.size w7 W ∧ W.cell? ⟨p, 1, none⟩ = some (.slice sa0 nla sc0) ∧ W.cell? ⟨p, 2, none⟩ = some (.slice sa1 nlb sc1))
        ((go_split_ands; refine (fun hBB => ⟨hBB, cell_keep hBB z1, cell_keep hBB z2⟩) ?_; first | with_reducible assumption | with_reducible exact Below.drew (by assumption) | with_reducible exact below_alloc_keep (by assumption) | with_reducible exact Below.drew (below_alloc_keep (by assumption)) | with_reducible exact below_alloc_keep (Below.drew (by assumption))))
        (first
          | (go_at_call 46; (with_reducible refine CC'.out.mono ?_); rintro e' wC ⟨vC, rfl, hOC, hbC⟩; have hBC : Below w7.heap.size w7 wC := below_keep (below_alloc w7 _).drew hbC; obtain ⟨aC, cC, rfl⟩ := hOC.shape)
          | (go_at_call 100; (with_reducible refine (BN'.out _ _ hOC.sl).mono ?_); rintro e' wD ⟨vD, rfl, hOD, hbD⟩; have hBD : Below w7.heap.size w7 wD := below_keep hBC hbD; obtain ⟨aD, cD, rfl⟩ := hOD.shape))
      have hzC := hBC.size
      have HOD : Hid (Own (tupE.avoid fun k => k = w1.heap.size) wD (w1.heap.size + 1) (.slice ao out.length co) out) := Lib.hid (HO7.out.below hBD)
      have HPT : Hid (Sl intE wD (fun k => some k = (Value.slice ao out.length co).ownBlock) (.slice aD pts.length cD) pts) := Lib.hid (hOD.slG fun k hk => by have := (HO7.out.lt k hk.symm).2; omega)
      have HG0D := Lib.hid (HG0.out.below hBD)
      have HG1D := Lib.hid (HG1.out.below hBD)
      have y0 := cell_keep hBD z0
      have y1 := cell_keep hBD z1
      have y2 := cell_keep hBD z2
      have HBD := Lib.hid hBD
      obtain ⟨m, hm⟩ : ∃ m, m = pts.length := ⟨_, rfl⟩
      have HM := Lib.hid hm
      rw [← hm] at HPT HSB HSA ⊢
      have hm4 : m ≤ 4000 := by have := HSB.out; omega
      have hzD := hBD.size
      clear hen7 hbC hOC hbD hOD hBC hbb hzC HG0 HG1 HT0 HT1 CC' BN' z0 z1 z2 hm hlab
      clear hBD
      go_wp2_with fail
      go_loopw [11, 7] (fun i o wr => ∃ k : Nat, (k = 0 ∨ k + 1 ≤ m) ∧ i = .int .i64 ((k : Int) + 1) ∧ Own (tupE.avoid fun k => k = w1.heap.size) wr (w1.heap.size + 1) o (out ++ segPre f a b vs k) ∧ Since (.slice ao out.length co) wD o wr ∧ Hid (Below (w1.heap.size + 1) wD wr)) (fun i _ _ => m + 1 - (RowKit.intOf i).toNat)
      case atStart => exact ⟨0, .inl rfl, rfl, by rw [HS0.out, List.append_nil]; exact HOD.out, Since.refl _ _, Lib.hid (.refl _ _)⟩
      case round =>
        obtain ⟨k, hk, rfl, hOk, hSk, HBk⟩ := hrel
        obtain ⟨wq, rfl⟩ : ∃ wq : World, wq = wr := ⟨_, rfl⟩
        have hal : (out ++ segPre f a b vs k).length ≤ 200000 := by rw [List.length_append]; have := HSG.out k; omega
        have hk4 : k ≤ 4000 := by omega
        by_cases hlt : k + 1 < m
        · obtain ⟨x, hx⟩ := lget_some pts k (by rw [← HM.out]; omega)
          obtain ⟨y, hy⟩ := lget_some pts (k + 1) (by rw [← HM.out]; omega)
          have HSN' : Hid (segPre f a b vs (k + 1) = segPre f a b vs k ++ during (List.replicate (f (atDay la x).length (atDay lb x).length) ⟨vs, mergeL (linD la x) (linD lb x)⟩) x y) := Lib.hid (HSN.out k x y hx hy)
          obtain ⟨bp, op, ea, q0⟩ := ints_at (hSk.sl HPT.out) hx
          obtain ⟨bp', op', ea', q1⟩ := ints_at (hSk.sl HPT.out) hy
          subst ea
          cases ea'
          have HLQX := HLQV.out x
          have hcx : (atDay la x).length ≤ 1000 := Nat.le_trans (atDay_len _ _) (by have := HNLA.out; omega)
          have hcy : (atDay lb x).length ≤ 1000 := Nat.le_trans (atDay_len _ _) (by have := HNLB.out; omega)
          have hfz := HFM.out (atDay la x).length (atDay lb x).length
          obtain ⟨acc, hacc⟩ : ∃ acc, acc = out ++ segPre f a b vs k := ⟨_, rfl⟩
          have HAC : Hid (out ++ segPre f a b vs (k + 1) = acc ++ during (List.replicate (f (atDay la x).length (atDay lb x).length) ⟨vs, mergeL (linD la x) (linD lb x)⟩) x y) := Lib.hid (by rw [HSN'.out, hacc, List.append_assoc])
          rw [← hacc] at hOk hal
          have hz : ∀ W, Below wq.heap.size wq W → Hid (Calls Tryz.prog 101 #[.slice sa0 nla sc0, .int .i64 x] W fun e w' => ∃ v', e = .returned (.tuple #[.int .i64 ((atDay la x).length : Nat), v']) ∧ Own intE w' W.heap.size v' (linD la x) ∧ Below W.heap.size W w') := fun W hW => Lib.hid (holding_any _ la x W ((hSk.sl HG0D.out).below hW).free (by have := HNLA.out; omega) HK0.out)
          have hz2 : ∀ W, Below wq.heap.size wq W → Hid (Calls Tryz.prog 101 #[.slice sa1 nlb sc1, .int .i64 x] W fun e w' => ∃ v', e = .returned (.tuple #[.int .i64 ((atDay lb x).length : Nat), v']) ∧ Own intE w' W.heap.size v' (linD lb x) ∧ Below W.heap.size W w') := fun W hW => Lib.hid (holding_any _ lb x W ((hSk.sl HG1D.out).below hW).free (by have := HNLB.out; omega) HK1.out)
          obtain ⟨lx, hlx⟩ : ∃ lx, lx = linD la x := ⟨_, rfl⟩
          obtain ⟨ly, hly⟩ : ∃ ly, ly = linD lb x := ⟨_, rfl⟩
          rw [← hlx] at hz HAC HLQX
          rw [← hly] at hz2 HAC HLQX
          generalize (atDay la x).length = cx at hz HAC hcx hfz
          generalize (atDay lb x).length = cy at hz2 HAC hcy hfz
          obtain ⟨aq, cq, rfl⟩ := hOk.shape
          have HOK := Lib.hid hOk
          have HSK := Lib.hid hSk
          have HZ := Lib.hid hz
          have HZ2 := Lib.hid hz2
          have x0 := hSk.cell HPO.out y0
          have x1 := hSk.cell HPO.out y1
          have x2 := hSk.cell HPO.out y2
          have hw1 : IntKind.i64.wrap (k : Int) = (k : Int) := IntWalk.i64_in _ (by omega)
          have hg1 : (k : Int) + 1 - 1 = (k : Int) := by omega
          have hg2 : (k : Int) + 1 < (m : Int) := by omega
          have hg3 : (k : Int) < (m : Int) := by omega
          have hg4 : k < m := by omega
          have hg5 : (0 : Int) ≤ (k : Int) + 1 := by omega
          have hbb : Below wq.heap.size wq wq := .refl _ _
          clear hx hy hacc hlx hly HSN' hOk hSk hz hz2 hk
          go_upto_region 9 with fail
          go_region_held3 (fun W => Below wq.heap.size wq W ∧ W.cell? ⟨bp, op + k, none⟩ = some (.int .i64 x) ∧ W.cell? ⟨bp, op + (k + 1), none⟩ = some (.int .i64 y))
            ((go_split_ands; refine (fun hBB => ⟨hBB, cell_keep hBB q0, cell_keep hBB q1⟩) ?_; first | with_reducible assumption | with_reducible exact Below.drew (by assumption) | with_reducible exact below_alloc_keep (by assumption) | with_reducible exact Below.drew (below_alloc_keep (by assumption)) | with_reducible exact below_alloc_keep (Below.drew (by assumption))))
            (first | fail)
          obtain ⟨w9, hw9⟩ : ∃ w9, w9 = (wq.alloc (.cells #[.int .i64 x, .int .i64 y] 50)).drew := ⟨_, rfl⟩
          have hB9 : Below wq.heap.size wq w9 := by rw [hw9]; exact (below_alloc _ _).drew
          have hX9 : w9.heap[wq.heap.size]? = some (.cells #[.int .i64 x, .int .i64 y] 50 (0, 0)) := by rw [hw9]; exact World.alloc_heap_new wq _
          have hz9 : w9.heap.size = wq.heap.size + 1 := by rw [hw9]; exact World.size_alloc _ _
          rw [← hw9]
          obtain ⟨d0, d1, _, _⟩ := box_two hX9
          replace x0 := cell_keep hB9 x0
          replace x1 := cell_keep hB9 x1
          replace x2 := cell_keep hB9 x2
          have HX9 := Lib.hid hX9
          have HB9 := Lib.hid hB9
          have HZ9 := HZ.out w9.drew hB9.drew
          have HZ10 := Lib.hid hz9
          have hbb : Below w9.heap.size w9 w9 := .refl _ _
          clear hw9 hB9 hX9 hz9 q0 q1 hw1 hg1
          go_upto_region 10 with fail
          go_region_held3 (fun W => Below w9.heap.size w9 W ∧ W.cell? ⟨p, 1, none⟩ = some (.slice sa0 nla sc0) ∧ W.cell? ⟨p, 2, none⟩ = some (.slice sa1 nlb sc1) ∧ W.cell? ⟨wq.heap.size, 0, none⟩ = some (.int .i64 x))
            ((go_split_ands; refine (fun hBB => ⟨hBB, cell_keep hBB x1, cell_keep hBB x2, cell_keep hBB d0⟩) ?_; first | with_reducible assumption | with_reducible exact Below.drew (by assumption) | with_reducible exact below_alloc_keep (by assumption) | with_reducible exact Below.drew (below_alloc_keep (by assumption)) | with_reducible exact below_alloc_keep (Below.drew (by assumption))))
            (first
              | (go_at_call 101; (with_reducible refine HZ9.out.mono ?_); rintro e' wL ⟨vL, rfl, hOL, hbL⟩; have hBL : Below w9.heap.size w9 wL := (Below.refl w9.heap.size w9).drew.trans hbL; obtain ⟨aL, cL, rfl⟩ := hOL.shape))
          have HBL := Lib.hid hBL
          have HOL : Hid (Own intE wL w9.heap.size (.slice aL lx.length cL) lx) := Lib.hid hOL
          have x0L := cell_keep hBL x0
          have x2L := cell_keep hBL x2
          have d0L := cell_keep hBL d0
          have d1L := cell_keep hBL d1
          have HZL := HZ2.out wL.drew (below_keep HB9.out hBL).drew
          have hbb2 : Below wL.heap.size wL wL := .refl _ _
          clear hbL hBL hOL hbb HZ9
          go_upto_region 11 with fail
          go_region_held3 (fun W => Below wL.heap.size wL W ∧ W.cell? ⟨p, 2, none⟩ = some (.slice sa1 nlb sc1) ∧ W.cell? ⟨wq.heap.size, 0, none⟩ = some (.int .i64 x))
            ((go_split_ands; refine (fun hBB => ⟨hBB, cell_keep hBB x2L, cell_keep hBB d0L⟩) ?_; first | with_reducible assumption | with_reducible exact Below.drew (by assumption) | with_reducible exact below_alloc_keep (by assumption) | with_reducible exact Below.drew (below_alloc_keep (by assumption)) | with_reducible exact below_alloc_keep (Below.drew (by assumption))))
            (first
              | (go_at_call 101; (with_reducible refine HZL.out.mono ?_); rintro e' wR ⟨vR, rfl, hOR, hbR⟩; have hBR : Below wL.heap.size wL wR := (Below.refl wL.heap.size wL).drew.trans hbR; obtain ⟨aR, cR, rfl⟩ := hOR.shape))
          have HBR := Lib.hid hBR
          have HOR : Hid (Own intE wR wL.heap.size (.slice aR ly.length cR) ly) := Lib.hid hOR
          have x0R := cell_keep hBR x0L
          have d0R := cell_keep hBR d0L
          have d1R := cell_keep hBR d1L
          have HFC := Lib.hid (HF.out cx cy wR (by omega) (by omega))
          clear hbR hBR hOR hbb2 HZL x0 x1 x2 d0 d1 x0L x2L d0L d1L
          go_wp2_with fail
          rw [HEN.out]
          simp only [Oper.upon]
          refine HFC.out.mono ?_
          rintro _ wF ⟨rfl, hbF⟩
          dsimp only
          obtain ⟨z, hz⟩ : ∃ z, z = f cx cy := ⟨_, rfl⟩
          rw [← hz] at HAC hfz ⊢
          have hz2000 : z ≤ 2000 := by omega
          obtain ⟨x0F, e0F, e1F⟩ := (⟨cell_keep hbF x0R, cell_keep hbF d0R, cell_keep hbF d1R⟩ : _ ∧ _ ∧ _)
          have HB9F := Lib.hid (below_keep HBL.out (below_keep HBR.out hbF))
          have hb9F := below_keep HB9.out HB9F.out
          have HOT := Lib.hid (HOK.out.below hb9F)
          have HST2 := Lib.hid (HSK.out.below hb9F)
          have HBq := Lib.hid (HBk.out.trans (hb9F.mono (by have := HBk.out.size; omega)))
          have hnb : some wq.heap.size ≠ (Value.slice aq acc.length cq).ownBlock := fun e => by have := (HOK.out.lt _ e.symm).2; omega
          have HNB := Lib.hid hnb
          have hzF : wq.heap.size < wF.heap.size := by have := HB9F.out.size; have := HZ10.out; omega
          have HGL : Hid (Sl intE wF (fun k => some k = (Value.slice aq acc.length cq).ownBlock) (.slice aL lx.length cL) lx) := Lib.hid (((HOL.out.slG (G := fun k => some k = (Value.slice aq acc.length cq).ownBlock) fun k hk => by have := (HOK.out.lt _ hk.symm).2; have := HZ10.out; omega).below HBR.out).below hbF)
          have HGR : Hid (Sl intE wF (fun k => some k = (Value.slice aq acc.length cq).ownBlock) (.slice aR ly.length cR) ly) := Lib.hid ((HOR.out.slG (G := fun k => some k = (Value.slice aq acc.length cq).ownBlock) fun k hk => by have := (HOK.out.lt _ hk.symm).2; have := HZ10.out; have := HBL.out.size; omega).below hbF)
          have hpq : some p ≠ (Value.slice aq acc.length cq).ownBlock := fun e => by have := (HOK.out.lt _ e.symm).1; omega
          have HPQ := Lib.hid hpq
          have hllx : lx.length + ly.length ≤ 1000 := HLQX
          have HMG := Lib.hid (fun (o : Value) W (h : Since (.slice aq acc.length cq) wF o W) => bagMerge_any (.slice aL lx.length cL) (.slice aR ly.length cR) lx ly W (h.sl HGL.out).free (h.sl HGR.out).free (by omega))
          generalize hnx : lx.length = nlx at HGL HGR HMG hllx ⊢
          generalize hny : ly.length = nly at HGL HGR HMG hllx ⊢
          obtain ⟨lm, hlm⟩ : ∃ lm, lm = mergeL lx ly := ⟨_, rfl⟩
          rw [← hlm] at HAC HMG
          have HBE := Lib.hid (below_keep HB7.out HBD.out)
          clear HFC hbF hz hfz hb9F hnb hpq x0R d0R d1R HOL HOR HBL HBR HB9F HB9 HX9 HZ HZ2 HOK HSK HBk hcx hcy hlm hnx hny
          go_wp2_with fail
          go_loopw [80, 7] (fun t o wr => ∃ j : Nat, j ≤ z ∧ t = .int .i64 j ∧ Own (tupE.avoid fun k => k = w1.heap.size) wr (w1.heap.size + 1) o (acc ++ during (List.replicate j ⟨vs, lm⟩) x y) ∧ Since (.slice aq acc.length cq) wF o wr ∧ Hid (Below (w1.heap.size + 1) wF wr)) (fun t _ _ => z - (RowKit.intOf t).toNat)
          case atStart => exact ⟨0, Nat.zero_le _, rfl, by show Own _ _ _ _ (acc ++ []); rw [List.append_nil]; exact HOT.out, Since.refl _ _, Lib.hid (.refl _ _)⟩
          case round =>
            obtain ⟨j, hj, rfl, hOj, hSj, HBj⟩ := hrel
            obtain ⟨wp, rfl⟩ : ∃ wp : World, wp = wr := ⟨_, rfl⟩
            have hl2 : (acc ++ during (List.replicate j (⟨vs, lm⟩ : GRow)) x y).length ≤ 202000 := by rw [List.length_append, during_length, List.length_replicate]; omega
            by_cases hlt2 : j < z
            · have HD2 : Hid (acc ++ during (List.replicate (j + 1) (⟨vs, lm⟩ : GRow)) x y = (acc ++ during (List.replicate j ⟨vs, lm⟩) x y) ++ [⟨vs, x, y, lm⟩]) := Lib.hid (by rw [during_snoc, List.append_assoc])
              obtain ⟨acc2, hacc2⟩ : ∃ acc2, acc2 = acc ++ during (List.replicate j (⟨vs, lm⟩ : GRow)) x y := ⟨_, rfl⟩
              rw [← hacc2] at hOj hl2 HD2
              obtain ⟨as1, cs1, rfl⟩ := hOj.shape
              have hBw : Below w.heap.size w wp := HBE.out.trans ((HBq.out.trans HBj.out).mono (by omega))
              have hz0 : w1.heap.size < wp.heap.size := by have := HBj.out.size; have := HBq.out.size; omega
              have HELS : Hid (∀ W v, Below wp.heap.size wp W → Own intE W wp.heap.size v lm → Els (tupE.avoid fun k => k = w1.heap.size) W (fun k => some k = (Value.slice as1 acc2.length cs1).ownBlock) [⟨vs, x, y, lm⟩] [.slice va nvs vc, .int .i64 x, .int .i64 y, v]) := Lib.hid (fun W v hW hv => Els.one ⟨_, _, rfl, ((HVV.out.old (Nat.le_refl _)).below (below_keep hBw hW)).mono (fun k _ hk => by
                rcases hk with hk | hk
                · have := (hOj.lt k hk.symm).1; omega
                · have := HB1.out.size; omega), hv.slG (fun k hk => by
                rcases hk with hk | hk
                · exact (hOj.lt k hk.symm).2
                · omega)⟩)
              have x0p := hSj.cell HPQ.out x0F
              have e0p := hSj.cell HNB.out e0F
              have e1p := hSj.cell HNB.out e1F
              have HMGp := Lib.hid (HMG.out _ _ (hSj.below (w' := wp.drew) (Below.refl _ _).drew))
              have HOJ := Lib.hid hOj
              have HSJ := Lib.hid hSj
              have hbp : Keeps (fun k => some k = (Value.slice as1 acc2.length cs1).ownBlock) wp wp := Keeps.refl _ _
              have hpj : some p ≠ (Value.slice as1 acc2.length cs1).ownBlock := fun e => by have := (HOJ.out.lt _ e.symm).1; omega
              have hnj : some wq.heap.size ≠ (Value.slice as1 acc2.length cs1).ownBlock := fun e => by
                rcases HSJ.out.place _ e.symm with h | h
                · exact HNB.out h.symm
                · omega
              have HPJ : Hid (∀ W, Keeps (fun k => some k = (Value.slice as1 acc2.length cs1).ownBlock) wp W → W.cell? ⟨p, 0, none⟩ = some (.slice va nvs vc) ∧ W.cell? ⟨wq.heap.size, 0, none⟩ = some (.int .i64 x) ∧ W.cell? ⟨wq.heap.size, 1, none⟩ = some (.int .i64 y)) := Lib.hid (fun W hW => ⟨hW.out.cell hpj x0p, hW.out.cell hnj e0p, hW.out.cell hnj e1p⟩)
              have hzp : w1.heap.size + 1 ≤ wp.heap.size := hz0
              clear hOj hSj hacc2 hBw x0F e0F e1F hpj hnj
              go_upto_region 14 with fail
              go_region_held3 (fun W => Keeps (fun k => some k = (Value.slice as1 acc2.length cs1).ownBlock) wp W ∧ W.cell? ⟨p, 0, none⟩ = some (.slice va nvs vc) ∧ W.cell? ⟨wq.heap.size, 0, none⟩ = some (.int .i64 x) ∧ W.cell? ⟨wq.heap.size, 1, none⟩ = some (.int .i64 y))
                ((go_split_ands; refine (fun hKK => ⟨hKK, HPJ.out _ hKK⟩) ?_; first | with_reducible assumption | with_reducible exact keeps_drew (by assumption) | with_reducible exact keeps_alloc (by assumption) | with_reducible exact keeps_drew (keeps_alloc (by assumption)) | with_reducible exact keeps_alloc (keeps_drew (by assumption))))
                (first
                  | (go_at_call 27; (with_reducible refine HMGp.out.mono ?_); rintro e' wM ⟨vM, rfl, hOM, hbM⟩; have hBM : Below wp.heap.size wp wM := (Below.refl wp.heap.size wp).drew.trans hbM; have hKM : Keeps (fun k => some k = (Value.slice as1 acc2.length cs1).ownBlock) wp wM := keeps_below hBM; obtain ⟨aM, cM, rfl⟩ := hOM.shape)
                  | (refine step_push rfl (.tmp 82) (.tmp 92) 24 rfl (tupE.avoid fun k => k = w1.heap.size) Tryz.underlying24 (w1.heap.size + 1) (.slice as1 acc2.length cs1) acc2 rfl (HOJ.out.below hBM) [⟨vs, x, y, lm⟩] #[.slice va nvs vc, .int .i64 x, .int .i64 y, .slice aM lm.length cM] (HELS.out _ _ hBM hOM) 1 1 rfl (by rfl) (by decide) (by unfold maxLen; omega) (by show _ * 64 ≤ _; omega) (Nat.le_trans hzp hBM.size) ?_; intro g cap w5 hP hPa; have hK5 := keeps_push hKM hP))
              have HP5 := Lib.hid hP
              have HSP : Hid (Since (.slice aq acc.length cq) wF (.slice (some ⟨g, 0, none⟩) (acc2.length + 1) cap) w5) := Lib.hid ((HSJ.out.below hBM).push hP)
              have HBP : Hid (Below (w1.heap.size + 1) wF w5) := Lib.hid (HBj.out.trans ((hBM.mono hzp).trans hP.below))
              clear hP hPa hK5 hBM hbM hOM hbp hKM
              go_wp2_with fail
              go_roundw
              case rel => exact ⟨j + 1, by omega, by go_num, by rw [HD2.out]; exact HP5.out.own' (by simp), HSP.out, HBP⟩
              case measure => simp [RowKit.intOf]; omega
            · obtain rfl : j = z := by omega
              have HOJ := Lib.hid hOj
              have HSJ := Lib.hid (HST2.out.trans hSj)
              have HBJ := Lib.hid (HBq.out.trans HBj.out)
              clear hOj hSj
              go_wp2_with fail
              go_roundw
              case rel => exact ⟨k + 1, .inr (by omega), by go_num, by rw [HAC.out]; exact HOJ.out, HSJ.out, HBJ⟩
              case measure => simp [RowKit.intOf]; omega
        · have hSA := HSA.out k (by omega)
          have hzq := HBk.out.size
          have hBq : Below (w1.heap.size + 1) w7 wq := (HBD.out.mono hzz7).trans HBk.out
          have HRGj : Hid (RngSV wq w.heap.size w1.heap.size 200000 (clsF C) (fun z => L z && !(z == s.data.toList)) cnt7) := Lib.hid (HRG7.out.below hBq (by omega) (Nat.lt_succ_self _))
          have HOJ := Lib.hid hOk
          have HIj : Hid (CmbI f a b (fun z => L z && !(z == s.data.toList)) (out ++ segPre f a b vs k)) := Lib.hid (by rw [hSA]; exact HST'.out)
          have HBJ : Hid (Below w1.heap.size w2 wq) := Lib.hid (HBR7.out.trans (hBq.mono (Nat.le_succ _)))
          clear hOk hSk hSA hBq
          go_wp2_with fail
          go_roundw
          case rel => exact ⟨_, _, _, HRGj.out, HOJ.out, HIj, HBJ⟩
          case measure =>
            rw [HRGj.out.left_eq, HRG.out.left_eq]
            exact HLT7.out
end Go.Proofs.YtngigmpaabmngaaGreatDoor

namespace Go.Proofs.YtngigmpaabmngaaGreatDoor
open Go.RowKit Go.Lib

set_option maxHeartbeats 1000000 in
theorem fExc_any (m n : Nat) (W : World) (hm : m ≤ 100000) (hn : n ≤ 100000) : Calls Tryz.prog 58 #[.int .i64 m, .int .i64 n] W fun e w' => e = .returned (.int .i64 (fExc m n : Nat)) ∧ Below W.heap.size W w' := by
  go_enter Tryz.func58, Tryz.ntmps58
  go_wp2_with fail
  have e : max 0 ((m : Int) - (n : Int)) = ((fExc m n : Nat) : Int) := by unfold fExc; omega
  go_ret
  exact ⟨by rw [e]; rfl, .refl _ _⟩
theorem fExc_le (m n : Nat) : fExc m n ≤ m + n := by unfold fExc; omega
set_option maxHeartbeats 1000000 in
theorem fInt_any (m n : Nat) (W : World) (_hm : m ≤ 100000) (_hn : n ≤ 100000) : Calls Tryz.prog 59 #[.int .i64 m, .int .i64 n] W fun e w' => e = .returned (.int .i64 (fInt m n : Nat)) ∧ Below W.heap.size W w' := by
  go_enter Tryz.func59, Tryz.ntmps59
  go_wp2_with fail
  have e : min (m : Int) (n : Int) = ((fInt m n : Nat) : Int) := by unfold fInt; omega
  go_ret
  exact ⟨by rw [e]; rfl, .refl _ _⟩
theorem fInt_le (m n : Nat) : fInt m n ≤ m + n := by unfold fInt; omega
set_option maxHeartbeats 1000000 in
theorem fDis_any (m n : Nat) (W : World) (_hm : m ≤ 100000) (_hn : n ≤ 100000) : Calls Tryz.prog 57 #[.int .i64 m, .int .i64 n] W fun e w' => e = .returned (.int .i64 (fDis m n : Nat)) ∧ Below W.heap.size W w' := by
  go_enter Tryz.func57, Tryz.ntmps57
  go_wp2_with fail
  have e : min (m : Int) 1 = ((fDis m n : Nat) : Int) := by unfold fDis; omega
  go_ret
  exact ⟨by rw [e]; rfl, .refl _ _⟩
theorem fDis_le (m n : Nat) : fDis m n ≤ m + n := by unfold fDis; omega
set_option maxHeartbeats 4000000 in
set_option maxRecDepth 100000 in
theorem except_any (v u : Value) (a b : List Tup) (q : Nat) (w : World) (hv : Tups w v a) (hu : Tups w u b) (hK : ∀ x ∈ a ++ b, Keyable x.row) (hq : ∀ x ∈ a ++ b, x.lin.length ≤ q) (hN : (a.length + b.length) * q ≤ 1000) (hS : ((a.length + b.length) * 2) * (a.length + b.length) ≤ 100000) (hT : Pow w) :
    Calls Tryz.prog 22 #[v, u] w fun e w' => ∃ T, NFS fExc a b T ∧ T.length ≤ 100000 ∧ RetOwn tupE w T e w' := by
  obtain ⟨a1, c1, rfl⟩ := hv.shape
  obtain ⟨a2, c2, rfl⟩ := hu.shape
  have HC := Lib.hid (combine_any 58 fExc (fun args W => by kernel_rfl) rfl fExc_le fExc_any (.slice a1 a.length c1) (.slice a2 b.length c2) a b q w hv hu hK hq hN hS hT)
  clear hv hu hK hq hN hS hT
  generalize a.length = na at HC ⊢
  generalize b.length = nb at HC ⊢
  go_enter Tryz.func22, Tryz.ntmps22
  go_wp2_with fail
  refine HC.out.mono ?_
  rintro _ w2 ⟨T, hT, hTl, vT, rfl, hO2, hb2⟩
  obtain ⟨aT, cT, rfl⟩ := hO2.shape
  have HT := Lib.hid hT
  have HTL := Lib.hid hTl
  have HO2 := Lib.hid hO2
  have HB2 := Lib.hid hb2
  clear hT hTl hO2 hb2 HC
  generalize T.length = nT at HO2 ⊢
  go_wp2_with fail
  go_ret
  exact ⟨T, HT.out, HTL.out, _, rfl, HO2.out, HB2.out⟩
set_option maxHeartbeats 4000000 in
set_option maxRecDepth 100000 in
theorem intersect_any (v u : Value) (a b : List Tup) (q : Nat) (w : World) (hv : Tups w v a) (hu : Tups w u b) (hK : ∀ x ∈ a ++ b, Keyable x.row) (hq : ∀ x ∈ a ++ b, x.lin.length ≤ q) (hN : (a.length + b.length) * q ≤ 1000) (hS : ((a.length + b.length) * 2) * (a.length + b.length) ≤ 100000) (hT : Pow w) :
    Calls Tryz.prog 23 #[v, u] w fun e w' => ∃ T, NFS fInt a b T ∧ T.length ≤ 100000 ∧ RetOwn tupE w T e w' := by
  obtain ⟨a1, c1, rfl⟩ := hv.shape
  obtain ⟨a2, c2, rfl⟩ := hu.shape
  have HC := Lib.hid (combine_any 59 fInt (fun args W => by kernel_rfl) rfl fInt_le fInt_any (.slice a1 a.length c1) (.slice a2 b.length c2) a b q w hv hu hK hq hN hS hT)
  clear hv hu hK hq hN hS hT
  generalize a.length = na at HC ⊢
  generalize b.length = nb at HC ⊢
  go_enter Tryz.func23, Tryz.ntmps23
  go_wp2_with fail
  refine HC.out.mono ?_
  rintro _ w2 ⟨T, hT, hTl, vT, rfl, hO2, hb2⟩
  obtain ⟨aT, cT, rfl⟩ := hO2.shape
  have HT := Lib.hid hT
  have HTL := Lib.hid hTl
  have HO2 := Lib.hid hO2
  have HB2 := Lib.hid hb2
  clear hT hTl hO2 hb2 HC
  generalize T.length = nT at HO2 ⊢
  go_wp2_with fail
  go_ret
  exact ⟨T, HT.out, HTL.out, _, rfl, HO2.out, HB2.out⟩
set_option maxHeartbeats 4000000 in
set_option maxRecDepth 100000 in
theorem distinct_any (v : Value) (a : List Tup) (q : Nat) (w : World) (hv : Tups w v a) (hK : ∀ x ∈ a, Keyable x.row) (hq : ∀ x ∈ a, x.lin.length ≤ q) (hN : (a.length + ([] : List Tup).length) * q ≤ 1000) (hS : ((a.length + ([] : List Tup).length) * 2) * (a.length + ([] : List Tup).length) ≤ 100000) (hT : Pow w) :
    Calls Tryz.prog 21 #[v] w fun e w' => ∃ T, NFS fDis a [] T ∧ T.length ≤ 100000 ∧ RetOwn tupE w T e w' := by
  obtain ⟨a1, c1, rfl⟩ := hv.shape
  have HC := Lib.hid (combine_any 57 fDis (fun args W => by kernel_rfl) rfl fDis_le fDis_any (.slice a1 a.length c1) (.slice none 0 0) a [] q w hv (Sl.nil _ _ _ 0 none)     (by rw [List.append_nil]; exact hK) (by rw [List.append_nil]; exact hq) hN hS hT)
  clear hv hK hq hN hS hT
  generalize a.length = na at HC ⊢
  go_enter Tryz.func21, Tryz.ntmps21
  go_wp2_with fail
  refine HC.out.mono ?_
  rintro _ w2 ⟨T, hT, hTl, vT, rfl, hO2, hb2⟩
  obtain ⟨aT, cT, rfl⟩ := hO2.shape
  have HT := Lib.hid hT
  have HTL := Lib.hid hTl
  have HO2 := Lib.hid hO2
  have HB2 := Lib.hid hb2
  clear hT hTl hO2 hb2 HC
  generalize T.length = nT at HO2 ⊢
  go_wp2_with fail
  go_ret
  exact ⟨T, HT.out, HTL.out, _, rfl, HO2.out, HB2.out⟩
set_option maxHeartbeats 4000000 in
set_option maxRecDepth 100000 in
theorem union_any (v u : Value) (a b : List Tup) (w : World) (hv : Tups w v a) (hu : Tups w u b) (hs : a.length + b.length ≤ 1000) (hK : ∀ x ∈ a ++ b, Keyable x.row) (hT : Pow w) :
    Calls Tryz.prog 19 #[v, u] w fun e w' => ∃ T, IsNF (a ++ b) T ∧ T.length ≤ 1000 ∧ RetOwn tupE w T e w' := by
  obtain ⟨a1, c1, rfl⟩ := hv.shape
  obtain ⟨a2, c2, rfl⟩ := hu.shape
  have hb0 := below_alloc w (.cells #[.slice a1 a.length c1, .slice a2 b.length c2] 24)
  obtain ⟨q0, q1, _, _⟩ := box_two (World.alloc_heap_new w (.cells #[.slice a1 a.length c1, .slice a2 b.length c2] 24))
  have HC := Lib.hid (concatT_any w.heap.size _ _ a b _ q0 q1 (hv.below hb0) (hu.below hb0) (by omega))
  have HB0 := Lib.hid hb0
  have hl : (a ++ b).length ≤ 1000 := by rw [List.length_append]; exact hs
  have HK := Lib.hid hK
  have HT := Lib.hid hT
  generalize a ++ b = l at HC hl HK ⊢
  generalize a.length = n1 at HC HB0 ⊢
  generalize b.length = n2 at HC HB0 ⊢
  clear hv hu hb0 q0 q1 hs hK hT
  go_enter Tryz.func19, Tryz.ntmps19
  go_wp2_with fail
  refine HC.out.mono ?_
  rintro _ w2 ⟨v2, rfl, hO2, hb2⟩
  obtain ⟨a4, c4, rfl⟩ := hO2.shape
  have HB2 := Lib.hid (below_keep HB0.out hb2)
  have HN := Lib.hid (normalize_any _ l w2 hO2.sl (by omega) HK.out (HT.out.below HB2.out))
  clear hO2 hb2 HC HB0
  generalize l.length = n at HN hl ⊢
  go_wp2_with fail
  refine HN.out.mono ?_
  rintro _ w3 ⟨T, hT3, hTl, vT, rfl, hO3, hb3⟩
  obtain ⟨aT, cT, rfl⟩ := hO3.shape
  have HTT := Lib.hid hT3
  have HTL := Lib.hid (Nat.le_trans hTl hl)
  have HO3 := Lib.hid (hO3.mono HB2.out.size)
  have HB3 := Lib.hid (below_keep HB2.out hb3)
  clear hT3 hTl hO3 hb3 HN
  generalize T.length = nT at HO3 ⊢
  go_wp2_with fail
  go_ret
  exact ⟨T, HTT.out, HTL.out, _, rfl, HO3.out, HB3.out⟩
end Go.Proofs.YtngigmpaabmngaaGreatDoor

namespace Go.Proofs.YtngigmpaabmngaaGreatDoor
open Go.RowKit

theorem cls_sem {f : Nat → Nat → Nat} (hf : f 0 0 = 0) {v : List GVal} {x y : List GRow} (hx : ∀ z ∈ x, z.vals = v) (hy : ∀ z ∈ y, z.vals = v) (r : GRow) : cntR (clsG f v x y) r = semN f x y r := by
  obtain ⟨rv, rl⟩ := r
  unfold clsG
  rw [cntR_replicate]
  by_cases h : v = rv
  · subst h
    have hm : ∀ l : List GRow, (∀ z ∈ l, z.vals = v) → multL l v = l.length := fun l hl => by
      unfold multL
      rw [List.countP_eq_length]
      exact fun z hz => decide_eq_true ((cmpRows_zero _ _).2 (hl z hz))
    have hl : ∀ l : List GRow, (∀ z ∈ l, z.vals = v) → linsL l v = l.flatMap GRow.lin := fun l hl => by
      unfold linsL
      rw [List.filter_eq_self.2 fun z hz => decide_eq_true ((cmpRows_zero _ _).2 (hl z hz))]
    unfold semN
    dsimp only
    rw [hm x hx, hm y hy, hl x hx, hl y hy]
    by_cases h2 : rl = mergeL (x.flatMap GRow.lin) (y.flatMap GRow.lin)
    · rw [if_pos h2, if_pos (cmpRow_zero.2 (by rw [h2]))]
    · rw [if_neg h2, if_neg (fun e => h2 (by have := congrArg GRow.lin (cmpRow_zero.1 e); exact this.symm))]
  · rw [if_neg (fun e => h (congrArg GRow.vals (cmpRow_zero.1 e)))]
    exact (semN_absent hf (fun z hz e => h ((hx z hz).symm.trans e)) fun z hz e => h ((hy z hz).symm.trans e)).symm
/-- Relations of one list of values: the operation day by day. -/
theorem nfs_one {f : Nat → Nat → Nat} (hf : f 0 0 = 0) {v : List GVal} {a b T : List Tup} (ha : ∀ x ∈ a, x.vals = v) (hb : ∀ x ∈ b, x.vals = v) (hT : IsNF T T) (hd : ∀ t, atDay T t = clsG f v (atDay a t) (atDay b t)) : NFS f a b T := by
  refine ⟨T, fun t r => ?_, hT⟩
  rw [hd t]
  refine cls_sem hf (fun z hz => ?_) (fun z hz => ?_) r
  · obtain ⟨x, hx, rfl, _⟩ := mem_atDay.1 hz
    exact ha x hx
  · obtain ⟨x, hx, rfl, _⟩ := mem_atDay.1 hz
    exact hb x hx
theorem sopA_dayA (v : List GVal) (t : Int) : atDay [⟨v, 0, 9, [1]⟩] t = if 0 ≤ t ∧ t < 9 then [⟨v, [1]⟩] else [] := day_cons (r := ⟨v, [1]⟩) (l := []) (pvalid_iff.2 (by decide))
theorem sopA_dayB (v : List GVal) (t : Int) : atDay [⟨v, 3, 5, [2]⟩] t = if 3 ≤ t ∧ t < 5 then [⟨v, [2]⟩] else [] := day_cons (r := ⟨v, [2]⟩) (l := []) (pvalid_iff.2 (by decide))
theorem nf_self_two {a b : Tup} (h1 : pvalid a.lo a.hi = true) (h2 : pvalid b.lo b.hi = true) (h3 : Lam a b) (h4 : ¬ cmpTup b a < 0) : IsNF [a, b] [a, b] := by
  refine ⟨⟨fun x hx => ?_, ?_⟩, ?_, fun t => .refl _⟩
  · simp at hx
    rcases hx with rfl | rfl <;> assumption
  · simp only [List.pairwise_cons, List.mem_singleton, forall_eq, List.not_mem_nil, false_implies, implies_true, List.Pairwise.nil, and_true]
    exact h3
  · simp only [List.pairwise_cons, List.mem_singleton, forall_eq, List.not_mem_nil, false_implies, implies_true, List.Pairwise.nil, and_true]
    exact h4
theorem nf_self_one {a : Tup} (h1 : pvalid a.lo a.hi = true) : IsNF [a] [a] := by
  refine ⟨⟨fun x hx => ?_, ?_⟩, ?_, fun t => .refl _⟩
  · simp at hx
    subst hx
    exact h1
  · simp
  · simp
theorem sopA_exc (v : List GVal) : NFS fExc [⟨v, 0, 9, [1]⟩] [⟨v, 3, 5, [2]⟩] [⟨v, 0, 3, [1]⟩, ⟨v, 5, 9, [1]⟩] := by
  refine nfs_one (v := v) rfl (by simp) (by simp) (nf_self_two (pvalid_iff.2 (by dsimp only; omega)) (pvalid_iff.2 (by dsimp only; omega)) (fun _ => .inl (by dsimp only; omega)) (same_row_sorted (.inl (by decide)))) fun t => ?_
  have e1 := day_cons (r := ⟨v, [1]⟩) (lo := 0) (hi := 3) (t := t) (l := [⟨v, 5, 9, [1]⟩]) (pvalid_iff.2 (by decide))
  have e2 := day_cons (r := ⟨v, [1]⟩) (lo := 5) (hi := 9) (t := t) (l := []) (pvalid_iff.2 (by decide))
  dsimp only at e1 e2
  rw [e1, e2, sopA_dayA, sopA_dayB, atDay_nil]
  split <;> split <;> split <;> (try split) <;> first | rfl | (exfalso; omega)
theorem sopA_int (v : List GVal) : NFS fInt [⟨v, 0, 9, [1]⟩] [⟨v, 3, 5, [2]⟩] [⟨v, 3, 5, [1, 2]⟩] := by
  refine nfs_one (v := v) rfl (by simp) (by simp) (nf_self_one (pvalid_iff.2 (by dsimp only; omega))) fun t => ?_
  have e1 := day_cons (r := ⟨v, [1, 2]⟩) (lo := 3) (hi := 5) (t := t) (l := []) (pvalid_iff.2 (by decide))
  dsimp only at e1
  rw [e1, sopA_dayA, sopA_dayB, atDay_nil]
  split <;> split <;> first | rfl | (exfalso; omega)
theorem sopA_dis (v : List GVal) : NFS fDis [⟨v, 0, 9, [1]⟩] [] [⟨v, 0, 9, [1]⟩] := by
  refine nfs_one (v := v) rfl (by simp) (by simp) (nf_self_one (pvalid_iff.2 (by dsimp only; omega))) fun t => ?_
  rw [sopA_dayA, atDay_nil]
  split <;> rfl
theorem sopA_uni (v : List GVal) : IsNF [⟨v, 0, 9, [1]⟩, ⟨v, 3, 5, [2]⟩] [⟨v, 0, 9, [1]⟩, ⟨v, 3, 5, [2]⟩] := by
  refine nf_self_two (pvalid_iff.2 (by dsimp only; omega)) (pvalid_iff.2 (by dsimp only; omega)) (fun e => ?_) ?_
  · have h := congrArg GRow.lin e
    exact absurd (show ([1] : List Int) = [2] from h) (by decide)
  · intro h
    have h1 : cmpRows v v = 0 := (cmpRows_zero _ _).2 rfl
    have e : cmpRow (Tup.row ⟨v, 3, 5, [2]⟩) (Tup.row ⟨v, 0, 9, [1]⟩) = if cmpRows v v = 0 then cmpInts [2] [1] else cmpRows v v := rfl
    rw [if_pos h1] at e
    have h2 : cmpRow (Tup.row ⟨v, 3, 5, [2]⟩) (Tup.row ⟨v, 0, 9, [1]⟩) = 1 := e.trans (by decide)
    have e2 : cmpTup ⟨v, 3, 5, [2]⟩ ⟨v, 0, 9, [1]⟩ = 1 := by
      unfold cmpTup or2
      rw [h2]
      rfl
    rw [e2] at h
    exact absurd h (by decide)
end Go.Proofs.YtngigmpaabmngaaGreatDoor

namespace Go.Proofs.YtngigmpaabmngaaGreatDoor
open Go.RowKit Go.Lib

theorem sameRowL_iff {a b : List GVal} {l m : List Int} : sameRowL a b l m = true ↔ a = b ∧ l = m := by
  unfold sameRowL
  simp only [Bool.and_eq_true, decide_eq_true_eq, cmpRows_zero, cmpInts_zero]
theorem sameTup_iff {a b : Tup} : sameTup a b = true ↔ a = b := by
  obtain ⟨v, x, y, u⟩ := a
  obtain ⟨v', x', y', u'⟩ := b
  unfold sameTup
  simp only [Bool.and_eq_true, beq_iff_eq, sameRowL_iff, Tup.mk.injEq]
  constructor
  · rintro ⟨⟨rfl, rfl⟩, rfl, rfl⟩; exact ⟨rfl, rfl, rfl, rfl⟩
  · rintro ⟨rfl, rfl, rfl, rfl⟩; exact ⟨⟨rfl, rfl⟩, rfl, rfl⟩
theorem sameTups_iff : ∀ {l m : List Tup}, sameTups l m = true ↔ l = m
  | [], [] => by simp [sameTups]
  | [], b :: m => by simp [sameTups]
  | a :: l, [] => by simp [sameTups]
  | a :: l, b :: m => by
    rw [sameTups, Bool.and_eq_true, sameTup_iff, sameTups_iff, List.cons.injEq]
theorem cmpTup_same (a b : Tup) : (cmpTup a b == 0) = sameTup a b := by
  rw [Bool.eq_iff_iff, beq_iff_eq, cmpTup_zero, sameTup_iff]
set_option maxHeartbeats 1000000 in
theorem same1_any (a b : Tup) (v u v2 u2 : Value) (w : World) (hv : Sl valE w free v a.vals) (hu : Sl intE w free u a.lin) (hv2 : Sl valE w free v2 b.vals) (hu2 : Sl intE w free u2 b.lin) :
    Calls Tryz.prog 75 #[.agg #[v, .int .i64 a.lo, .int .i64 a.hi, u], .agg #[v2, .int .i64 b.lo, .int .i64 b.hi, u2]] w fun e w' => e = .returned (.bool (sameTup a b)) ∧ Below w.heap.size w w' := by
  obtain ⟨z, hz⟩ : ∃ z, z = cmpTup a b := ⟨_, rfl⟩
  have HZ : Hid (sameTup a b = (z == 0)) := by show _ = _; rw [hz, cmpTup_same]
  have HC : ∀ W, Grew w W → Hid (Calls Tryz.prog 43 #[.agg #[v, .int .i64 a.lo, .int .i64 a.hi, u], .agg #[v2, .int .i64 b.lo, .int .i64 b.hi, u2]] W fun e w' => e = .returned (.int .i64 z) ∧ Grew W w') := fun W h => hz ▸ tupCmp_g a b v u v2 u2 W (hv.below h.below) (hu.below h.below) (hv2.below h.below) (hu2.below h.below)
  obtain ⟨a1, c1, rfl⟩ := hv.shape
  obtain ⟨a2, c2, rfl⟩ := hu.shape
  obtain ⟨a3, c3, rfl⟩ := hv2.shape
  obtain ⟨a4, c4, rfl⟩ := hu2.shape
  generalize sameTup a b = r at HZ ⊢
  generalize a.vals.length = n1 at HC ⊢
  generalize a.lin.length = n2 at HC ⊢
  generalize b.vals.length = n3 at HC ⊢
  generalize b.lin.length = n4 at HC ⊢
  generalize a.lo = l1 at HC ⊢
  generalize a.hi = h1 at HC ⊢
  generalize b.lo = l2 at HC ⊢
  generalize b.hi = h2 at HC ⊢
  clear hv hu hv2 hu2 hz
  have hB0 := grew_alloc2 w (.cells #[.slice a1 n1 c1, .int .i64 l1, .int .i64 h1, .slice a2 n2 c2] 52) (.cells #[.slice a3 n3 c3, .int .i64 l2, .int .i64 h2, .slice a4 n4 c4] 52)
  obtain ⟨⟨d0, d1, d2, d3⟩, _⟩ := box_four (heap_alloc_old' w (.cells #[.slice a1 n1 c1, .int .i64 l1, .int .i64 h1, .slice a2 n2 c2] 52) (.cells #[.slice a3 n3 c3, .int .i64 l2, .int .i64 h2, .slice a4 n4 c4] 52))
  obtain ⟨⟨e0, e1, e2, e3⟩, _⟩ := box_four (heap_alloc_new' w (.cells #[.slice a1 n1 c1, .int .i64 l1, .int .i64 h1, .slice a2 n2 c2] 52) (.cells #[.slice a3 n3 c3, .int .i64 l2, .int .i64 h2, .slice a4 n4 c4] 52))
  have HC0 := HC _ hB0
  have HB0 := Lib.hid hB0
  clear hB0 HC
  go_enter Tryz.func75, Tryz.ntmps75
  go_wp2_with fail
  refine HC0.out.mono ?_
  rintro _ w2 ⟨rfl, hg⟩
  have HB : Hid (Below w.heap.size w w2) := Lib.hid (HB0.out.trans hg).below
  clear hg
  go_wp2_with fail
  go_ret
  exact ⟨ret_bool HZ.out.symm, HB.out⟩
set_option maxHeartbeats 4000000 in
set_option maxRecDepth 100000 in
theorem eqFun_any (v u : Value) (l m : List Tup) (w : World) (hv : Tups w v l) (hu : Tups w u m) :
    Calls Tryz.prog 74 #[v, u, .func (.func 75) #[] #[]] w fun e w' => e = .returned (.bool (sameTups l m)) ∧ Below w.heap.size w w' := by
  obtain ⟨a, c, rfl⟩ := hv.shape
  obtain ⟨a2, c2, rfl⟩ := hu.shape
  have h63 := hv.1
  have g63 := hu.1
  have HV := Lib.hid hv
  have HU := Lib.hid hu
  by_cases hlen : l.length = m.length
  · obtain ⟨n, hn⟩ : ∃ n, n = l.length := ⟨_, rfl⟩
    have HN := Lib.hid hn
    have HM : Hid (n = m.length) := Lib.hid (hn.trans hlen)
    rw [← hlen, ← hn] at HU
    rw [← hn] at HV h63
    rw [← hlen, ← hn]
    clear hv hu hn hlen g63
    go_enter Tryz.func74, Tryz.ntmps74
    go_wp2_with fail
    go_loopw [17] (fun i wr => ∃ k : Nat, k ≤ n ∧ i = .int .i64 k ∧ Hid (sameTups (l.drop k) (m.drop k) = sameTups l m) ∧ Hid (Below w.heap.size w wr)) (fun i _ => n - (intOf i).toNat)
    case atStart => exact ⟨0, Nat.zero_le _, rfl, Lib.hid rfl, Lib.hid (Below.refl _ _)⟩
    case round =>
      obtain ⟨k, hk, rfl, HR, HB⟩ := hrel
      obtain ⟨wo, rfl⟩ : ∃ wo : World, wo = wr := ⟨_, rfl⟩
      by_cases hlt : k < n
      · obtain ⟨x, hx⟩ := lget_some l k (by rw [← HN.out]; exact hlt)
        obtain ⟨y, hy⟩ := lget_some m k (by rw [← HM.out]; exact hlt)
        obtain ⟨b, o, a1, n1, e1, m1, rfl, hv1, hu1, p0, p1, p2, p3⟩ := tups_at (HV.out.below HB.out) hx
        obtain ⟨b2, o2, a3, n3, e3, m3, rfl, hv2, hu2, q0, q1, q2, q3⟩ := tups_at (HU.out.below HB.out) hy
        have HC := fun W (h : Below wo.heap.size wo W) => Lib.hid (same1_any x y _ _ _ _ W (hv1.below h) (hu1.below h) (hv2.below h) (hu2.below h))
        have HS : Hid (sameTups (l.drop k) (m.drop k) = (sameTup x y && sameTups (l.drop (k + 1)) (m.drop (k + 1)))) := by show _ = _; rw [drop_get hx, drop_get hy]; rfl
        obtain ⟨q, hq⟩ : ∃ q, q = sameTup x y := ⟨_, rfl⟩
        rw [← hq] at HC HS
        obtain ⟨xv, xlo, xhi, xl⟩ := x
        obtain ⟨yv, ylo, yhi, yl⟩ := y
        dsimp only at p0 p1 p2 p3 q0 q1 q2 q3 HC
        have hb0 := below_alloc wo (.cells #[.slice a1 xv.length n1, .int .i64 xlo, .int .i64 xhi, .slice e1 xl.length m1] 52)
        have g1 := heap_alloc_old' wo (.cells #[.slice a1 xv.length n1, .int .i64 xlo, .int .i64 xhi, .slice e1 xl.length m1] 52) (.cells #[.slice a3 yv.length n3, .int .i64 ylo, .int .i64 yhi, .slice e3 yl.length m3] 52)
        have g2 := heap_alloc_new' wo (.cells #[.slice a1 xv.length n1, .int .i64 xlo, .int .i64 xhi, .slice e1 xl.length m1] 52) (.cells #[.slice a3 yv.length n3, .int .i64 ylo, .int .i64 yhi, .slice e3 yl.length m3] 52)
        have hb2 := below_alloc_two wo (.cells #[.slice a1 xv.length n1, .int .i64 xlo, .int .i64 xhi, .slice e1 xl.length m1] 52) (.cells #[.slice a3 yv.length n3, .int .i64 ylo, .int .i64 yhi, .slice e3 yl.length m3] 52)
        obtain ⟨⟨d0, d1, d2, d3⟩, _⟩ := box_four g1
        obtain ⟨⟨f0, f1, f2, f3⟩, _⟩ := box_four g2
        have r0 := cell_keep hb0 q0
        have r1 := cell_keep hb0 q1
        have r2 := cell_keep hb0 q2
        have r3 := cell_keep hb0 q3
        have HC0 := HC _ hb2
        have HB2 := Lib.hid (below_keep HB.out hb2)
        clear hx hy hv1 hu1 hv2 hu2 hq hb0 g1 g2 hb2 HC q0 q1 q2 q3
        go_wp2_with fail
        refine HC0.out.mono ?_
        rintro _ w3 ⟨rfl, hb3⟩
        have HB3 := Lib.hid (below_keep HB2.out hb3)
        clear hb3
        cases q
        · have HF : Hid (sameTups l m = false) := by show _ = _; rw [← HR.out, HS.out]; rfl
          go_wp2_with fail
          go_ret
          exact ⟨ret_bool HF.out.symm, HB3.out⟩
        · have HF : Hid (sameTups (l.drop (k + 1)) (m.drop (k + 1)) = sameTups l m) := by show _ = _; rw [← HR.out, HS.out]; rfl
          go_wp2_with fail
          go_roundw
          case rel => exact ⟨k + 1, by omega, by go_num, HF, HB3⟩
          case measure => simp [intOf]; omega
      · have HF : Hid (sameTups l m = true) := by
          show _ = _
          rw [← HR.out, List.drop_of_length_le (l := l) (by rw [← HN.out]; omega), List.drop_of_length_le (l := m) (by rw [← HM.out]; omega)]; rfl
        go_wp2_with fail
        go_ret
        exact ⟨ret_bool HF.out.symm, HB.out⟩
  · have HF : Hid (sameTups l m = false) := sameTups_ne l m hlen
    obtain ⟨n, hn⟩ : ∃ n, n = l.length := ⟨_, rfl⟩
    obtain ⟨n2, hn2⟩ : ∃ n, n = m.length := ⟨_, rfl⟩
    rw [← hn, ← hn2] at hlen ⊢
    rw [← hn] at h63
    rw [← hn2] at g63
    have hne : ((n : Int) != (n2 : Int)) = true := by rw [bne_iff_ne]; omega
    clear hv hu HV HU hn hn2 hlen
    go_enter Tryz.func74, Tryz.ntmps74
    go_wp2_with fail
    go_ret
    exact ⟨ret_bool HF.out.symm, Below.refl _ _⟩
set_option maxHeartbeats 1000000 in
theorem same_any (v u : Value) (l m : List Tup) (w : World) (hv : Tups w v l) (hu : Tups w u m) :
    Calls Tryz.prog 37 #[v, u] w fun e w' => e = .returned (.bool (sameTups l m)) ∧ Below w.heap.size w w' := by
  have HE := Lib.hid (eqFun_any v u l m w hv hu)
  clear hv hu
  generalize sameTups l m = q at HE ⊢
  go_enter Tryz.func37, Tryz.ntmps37
  go_wp2_with fail
  refine HE.out.mono ?_
  rintro _ w2 ⟨rfl, hb⟩
  have HB := Lib.hid hb
  clear hb
  go_wp2_with fail
  go_ret
  exact ⟨rfl, HB.out⟩
set_option maxHeartbeats 1000000 in
theorem equiv_any (v u : Value) (a b : List Tup) (w : World) (hv : Tups w v a) (hu : Tups w u b) (ha : a.length ≤ 100000) (hb : b.length ≤ 100000) (hKa : ∀ x ∈ a, Keyable x.row) (hKb : ∀ x ∈ b, Keyable x.row) (hT : Pow w) :
    Calls Tryz.prog 14 #[v, u] w fun e w' => ∃ q : Bool, Hid (q = true ↔ ∀ t, (atDay a t).Perm (atDay b t)) ∧ e = .returned (.bool q) ∧ Below w.heap.size w w' := by
  have HN1 := Lib.hid (normalize_any v a w hv ha hKa hT)
  have HN2 : ∀ W, Below w.heap.size w W → Hid (Calls Tryz.prog 16 #[u] W fun e w' => ∃ T, IsNF b T ∧ T.length ≤ b.length ∧ RetOwn tupE W T e w') := fun W h => normalize_any u b W (hu.below h) hb hKb (hT.below h)
  have HN2' := Lib.hid HN2
  clear hv hu HN2
  go_enter Tryz.func14, Tryz.ntmps14
  go_wp2_with fail
  refine HN1.out.mono ?_
  rintro _ w2 ⟨S, hS, hSl, vS, rfl, hOS, hb2⟩
  have HS := Lib.hid hS
  have HOS := Lib.hid hOS
  have HB2 := Lib.hid hb2
  have HN3 := HN2'.out w2 hb2
  clear hS hSl hOS hb2 HN2'
  go_wp2_with fail
  refine HN3.out.mono ?_
  rintro _ w3 ⟨T, hT, hTl, vT, rfl, hOT, hb3⟩
  have HTT := Lib.hid hT
  have HSM := Lib.hid (same_any _ _ S T w3 (HOS.out.below hb3).sl hOT.sl)
  have HB3 := Lib.hid (below_keep HB2.out hb3)
  have HQ : Hid (sameTups S T = true ↔ ∀ t, (atDay a t).Perm (atDay b t)) := Lib.hid (sameTups_iff.trans (HS.out.iff HTT.out))
  clear hT hTl hOT hb3
  generalize sameTups S T = q at HSM HQ
  go_wp2_with fail
  refine HSM.out.mono ?_
  rintro _ w4 ⟨rfl, hb4⟩
  have HB4 := Lib.hid (below_keep HB3.out hb4)
  clear hb4
  go_wp2_with fail
  go_ret
  exact ⟨q, HQ, rfl, HB4.out⟩
end Go.Proofs.YtngigmpaabmngaaGreatDoor

namespace Go.Proofs.YtngigmpaabmngaaGreatDoor
open Go.RowKit

theorem tl_dat (s : ByteArray) : s.toList = s.data.toList := Lib.toList_data s
end Go.Proofs.YtngigmpaabmngaaGreatDoor

namespace Go.Proofs.YtngigmpaabmngaaGreatDoor
open Go.RowKit Go.Lib

/-- Numbers that grow. -/
def ascB : List Int → Bool
  | [] => true
  | [_] => true
  | a :: b :: r => decide (a < b) && ascB (b :: r)
def tupValid (t : Tup) : Bool := ascB t.lin && (pdays t.lo t.hi && t.vals.all validG)
theorem ascB_step {l : List Int} {k : Nat} {x y : Int} (hx : l[k]? = some x) (hy : l[k + 1]? = some y) : ascB (l.drop k) = (decide (x < y) && ascB (l.drop (k + 1))) := by rw [drop_get hx, drop_get hy]; rfl
theorem ascB_last {l : List Int} {k : Nat} (h : l.length ≤ k + 1) : ascB (l.drop k) = true := by
  rcases Nat.lt_or_ge k l.length with h1 | h1
  · obtain ⟨x, hx⟩ := lget_some l k h1
    rw [drop_get hx, List.drop_of_length_le h]; rfl
  · rw [List.drop_of_length_le h1]; rfl
end Go.Proofs.YtngigmpaabmngaaGreatDoor

namespace Go.Proofs.YtngigmpaabmngaaGreatDoor
open Go.RowKit Go.Lib

theorem bnds_awake (v : List GVal) : bnds [⟨v, 0, 9, [1]⟩, ⟨v, 3, 5, [1]⟩] = [0, 3, 5, 9] := by
  rw [bnds_ref]
  rfl
end Go.Proofs.YtngigmpaabmngaaGreatDoor

namespace Go.Proofs.YtngigmpaabmngaaGreatDoor
open Go.RowKit Go.Lib

set_option maxHeartbeats 4000000 in
set_option maxRecDepth 100000 in
theorem awake15_any (w : World) (hT : Pow w) : Calls Tryz.prog 18 #[] w fun e w' => e = .returned (.bool true) ∧ Below w.heap.size w w' := by
  have HV := Lib.hid (vals_any 0 0 (by decide) (by decide) w)
  have HT := Lib.hid hT
  obtain ⟨vs, hvs⟩ : ∃ vs, vs = [gval0 0, gval1 0] := ⟨_, rfl⟩
  have HKY : Hid (∀ lin : List Int, lin.length ≤ 1000 → (∀ i ∈ lin, In64 i) → Keyable ⟨vs, lin⟩) := Lib.hid (by rw [hvs]; exact fun lin h1 h2 => keyable_small 0 0 lin h1 h2)
  have HLN : Hid (vs.length = 2) := Lib.hid (by rw [hvs]; rfl)
  rw [← hvs] at HV
  have e0 : (Value.int .u16 ((0 : Nat) : Int)) = .int .u16 0 := rfl
  rw [e0] at HV
  clear hT hvs e0
  go_enter Tryz.func18, Tryz.ntmps18
  go_wp2_with fail
  refine HV.out.mono ?_
  rintro _ w1 ⟨a1, c1, rfl, hV, hb1⟩
  rw [HLN.out] at hV ⊢
  have HV1 := Lib.hid hV
  have HB1 := Lib.hid hb1
  clear hV hb1 HV
  obtain ⟨w5, hw5⟩ : ∃ w5, w5 = (((w1.alloc (.cells #[.int .i64 1] 3)).alloc (.cells #[.slice a1 2 c1, .int .i64 0, .int .i64 9, .slice (some ⟨w1.heap.size, 0, none⟩) 1 1] 52)).alloc (.cells #[.int .i64 2] 3)).alloc (.cells #[.slice a1 2 c1, .int .i64 3, .int .i64 5, .slice (some ⟨w1.heap.size + 1 + 1, 0, none⟩) 1 1] 52) := ⟨_, rfl⟩
  have hb5 : Below w1.heap.size w1 w5 := by rw [hw5]; exact below_alloc_keep (below_alloc_keep (below_alloc_two _ _ _))
  have hg0 : w5.heap[w1.heap.size]? = some (.cells #[.int .i64 1] 3) := by
    rw [hw5]
    exact (Below.heap_alloc _ _ _ (by simp; omega)).trans ((Below.heap_alloc _ _ _ (by simp; omega)).trans ((Below.heap_alloc _ _ _ (by simp)).trans (World.alloc_heap_new w1 _)))
  have hg1 := heap4_1 w1 (.cells #[.int .i64 1] 3) (.cells #[.slice a1 2 c1, .int .i64 0, .int .i64 9, .slice (some ⟨w1.heap.size, 0, none⟩) 1 1] 52) (.cells #[.int .i64 2] 3) (.cells #[.slice a1 2 c1, .int .i64 3, .int .i64 5, .slice (some ⟨w1.heap.size + 1 + 1, 0, none⟩) 1 1] 52)
  have hg2 := heap4_2 w1 (.cells #[.int .i64 1] 3) (.cells #[.slice a1 2 c1, .int .i64 0, .int .i64 9, .slice (some ⟨w1.heap.size, 0, none⟩) 1 1] 52) (.cells #[.int .i64 2] 3) (.cells #[.slice a1 2 c1, .int .i64 3, .int .i64 5, .slice (some ⟨w1.heap.size + 1 + 1, 0, none⟩) 1 1] 52)
  have hg3 := heap4_3 w1 (.cells #[.int .i64 1] 3) (.cells #[.slice a1 2 c1, .int .i64 0, .int .i64 9, .slice (some ⟨w1.heap.size, 0, none⟩) 1 1] 52) (.cells #[.int .i64 2] 3) (.cells #[.slice a1 2 c1, .int .i64 3, .int .i64 5, .slice (some ⟨w1.heap.size + 1 + 1, 0, none⟩) 1 1] 52)
  rw [← hw5] at hg1 hg2 hg3
  have hL1 : Sl intE w5 free (.slice (some ⟨w1.heap.size, 0, none⟩) 1 1) [1] := Sl.of_block (n := 1) (m := 1) hg0 (Els.one rfl) id rfl (by simp) (by simp)
  have hL2 : Sl intE w5 free (.slice (some ⟨w1.heap.size + 1 + 1, 0, none⟩) 1 1) [2] := Sl.of_block (n := 1) (m := 1) hg2 (Els.one rfl) id rfl (by simp) (by simp)
  have hE1 : tupE.is w5 free ⟨vs, 0, 9, [1]⟩ [.slice a1 2 c1, .int .i64 0, .int .i64 9, .slice (some ⟨w1.heap.size, 0, none⟩) 1 1] := ⟨_, _, rfl, (HV1.out.free).below hb5, hL1⟩
  have hE2 : tupE.is w5 free ⟨vs, 3, 5, [2]⟩ [.slice a1 2 c1, .int .i64 3, .int .i64 5, .slice (some ⟨w1.heap.size + 1 + 1, 0, none⟩) 1 1] := ⟨_, _, rfl, (HV1.out.free).below hb5, hL2⟩
  have hA5 : Tups w5 (.slice (some ⟨w1.heap.size + 1, 0, none⟩) 1 1) [⟨vs, 0, 9, [1]⟩] := Sl.of_block (n := 1) (m := 1) hg1 (Els.one hE1) id rfl (by simp) (by simp)
  have hB5 : Tups w5 (.slice (some ⟨w1.heap.size + 1 + 1 + 1, 0, none⟩) 1 1) [⟨vs, 3, 5, [2]⟩] := Sl.of_block (n := 1) (m := 1) hg3 (Els.one hE2) id rfl (by simp) (by simp)
  have HB5 := Lib.hid (below_keep HB1.out hb5)
  have hkk : ∀ x ∈ ([⟨vs, 0, 9, [1]⟩] ++ [⟨vs, 3, 5, [2]⟩] : List Tup), Keyable x.row := by
    intro x hx
    simp at hx
    rcases hx with rfl | rfl
    · exact HKY.out [1] (by simp) (by intro i hi; simp at hi; subst hi; decide)
    · exact HKY.out [2] (by simp) (by intro i hi; simp at hi; subst hi; decide)
  have hqq : ∀ x ∈ ([⟨vs, 0, 9, [1]⟩] ++ [⟨vs, 3, 5, [2]⟩] : List Tup), x.lin.length ≤ 1 := by
    intro x hx
    simp at hx
    rcases hx with rfl | rfl <;> simp
  have HA5 := Lib.hid hA5
  have HC5 := Lib.hid hB5
  have CE := Lib.hid (except_any _ _ [⟨vs, 0, 9, [1]⟩] [⟨vs, 3, 5, [2]⟩] 1 w5 hA5 hB5 hkk hqq (by simp) (by simp) (HT.out.below HB5.out))
  have CI := Lib.hid (fun W (h : Below w5.heap.size w5 W) => intersect_any _ _ [⟨vs, 0, 9, [1]⟩] [⟨vs, 3, 5, [2]⟩] 1 W (hA5.below h) (hB5.below h) hkk hqq (by simp) (by simp) ((HT.out.below HB5.out).below h))
  have CU := Lib.hid (fun W (h : Below w5.heap.size w5 W) => union_any _ _ [⟨vs, 0, 9, [1]⟩] [⟨vs, 3, 5, [2]⟩] W (hA5.below h) (hB5.below h) (by simp) hkk ((HT.out.below HB5.out).below h))
  have CD := Lib.hid (fun W (h : Below w5.heap.size w5 W) => distinct_any _ [⟨vs, 0, 9, [1]⟩] 1 W (hA5.below h) (fun x hx => hkk x (List.mem_append.2 (.inl hx))) (fun x hx => hqq x (List.mem_append.2 (.inl hx))) (by simp) (by simp) ((HT.out.below HB5.out).below h))
  have HW5 := Lib.hid hw5
  clear hw5 hb5 hg0 hg1 hg2 hg3 hL1 hL2 hE1 hE2 hA5 hB5 hkk hqq
  go_wp2_with fail
  rw [← HW5.out]
  refine CE.out.mono ?_
  rintro _ w6 ⟨T, hT, _, vT, rfl, hOT, hb6⟩
  obtain rfl : T = [⟨vs, 0, 3, [1]⟩, ⟨vs, 5, 9, [1]⟩] := hT.unique (sopA_exc vs)
  obtain ⟨aT, cT, rfl⟩ := hOT.shape
  have HST := Lib.hid hOT.sl
  have HB6 := Lib.hid hb6
  have CI6 := Lib.hid (CI.out w6 hb6)
  clear hT hOT hb6 CE CI
  simp only [List.length_cons, List.length_nil, Nat.zero_add] at HST ⊢
  go_wp2_with fail
  refine CI6.out.mono ?_
  rintro _ w7 ⟨M, hM, _, vM, rfl, hOM, hb7⟩
  obtain rfl : M = [⟨vs, 3, 5, [1, 2]⟩] := hM.unique (sopA_int vs)
  obtain ⟨aM, cM, rfl⟩ := hOM.shape
  have HST7 := HST.out.below hb7
  have HSM := hOM.sl
  simp only [List.length_cons, List.length_nil, Nat.zero_add] at HSM ⊢
  obtain ⟨b, o, x1, x2, x3, x4, rfl, _, _, p0, p1, p2, p3⟩ := tups_at HST7 (k := 0) rfl
  obtain ⟨b', o', y1, y2, y3, y4, eb, _, _, q0, q1, q2, q3⟩ := tups_at HST7 (k := 1) rfl
  cases eb
  obtain ⟨b2, o2, z1, z2, z3, z4, rfl, _, _, r0, r1, r2, r3⟩ := tups_at HSM (k := 0) rfl
  dsimp only at p0 p1 p2 p3 q0 q1 q2 q3 r0 r1 r2 r3
  rw [HLN.out] at p0 q0 r0
  simp only [Nat.zero_mul, Nat.add_zero, Nat.one_mul, List.length_cons, List.length_nil, Nat.zero_add] at p0 p1 p2 p3 q0 q1 q2 q3 r0 r1 r2 r3
  have he1 : (binOp .eql 50 (.agg #[.int .i64 0, .int .i64 3]) (.agg #[.int .i64 0, .int .i64 3])).run Tryz.prog w7 = .ok (.bool true) w7 := per_eql 0 3 0 3 w7
  have he2 : (binOp .eql 50 (.agg #[.int .i64 5, .int .i64 9]) (.agg #[.int .i64 5, .int .i64 9])).run Tryz.prog w7 = .ok (.bool true) w7 := per_eql 5 9 5 9 w7
  have HB7 := Lib.hid (below_keep HB6.out hb7)
  have CU7 := Lib.hid (CU.out w7 HB7.out)
  clear hM hOM hb7 HST7 HSM CI6 CU HST
  go_wp2_with fail
  refine CU7.out.mono ?_
  rintro _ w8 ⟨U, hU, _, vU, rfl, hOU, hb8⟩
  obtain rfl : U = [⟨vs, 0, 9, [1]⟩, ⟨vs, 3, 5, [2]⟩] := hU.unique (sopA_uni vs)
  obtain ⟨aU, cU, rfl⟩ := hOU.shape
  have HB8 := Lib.hid (below_keep HB7.out hb8)
  have CD8 := Lib.hid (CD.out w8 HB8.out)
  clear hU hOU hb8 CU7 CD he1 he2 p0 p1 p2 p3 q0 q1 q2 q3 r0 r1 r2 r3
  simp only [List.length_cons, List.length_nil, Nat.zero_add]
  go_wp2_with fail
  refine CD8.out.mono ?_
  rintro _ w9 ⟨D, hD, _, vD, rfl, hOD, hb9⟩
  obtain rfl : D = [⟨vs, 0, 9, [1]⟩] := hD.unique (sopA_dis vs)
  obtain ⟨aD, cD, rfl⟩ := hOD.shape
  have HB9 := Lib.hid (below_keep HB5.out (below_keep HB8.out hb9))
  clear hD hOD hb9 CD8
  simp only [List.length_cons, List.length_nil, Nat.zero_add]
  go_wp2_with fail
  go_ret
  exact ⟨rfl, HB9.out⟩
end Go.Proofs.YtngigmpaabmngaaGreatDoor

namespace Go.Proofs.YtngigmpaabmngaaGreatDoor
open Go.RowKit Go.Lib Go.Shelf

theorem awake_split : splitAt [⟨[], 0, 9, []⟩] [5, 3, 9, 0] = [⟨[], 0, 3, []⟩, ⟨[], 3, 5, []⟩, ⟨[], 5, 9, []⟩] := by
  have h : srt [5, 3, 9, 0] = [0, 3, 5, 9] := by simp [srt, List.mergeSort]
  rw [splitAt, h]
  simp [splitOne, pvalid, cutAt]
set_option maxHeartbeats 4000000 in
set_option maxRecDepth 100000 in
theorem awake_any (w : World) :
    Calls Tryz.prog 12 #[] w fun e w' => e = .returned (.bool true) ∧ Below w.heap.size w w' := by
  have hgd := per_guard
  go_enter Tryz.func12, Tryz.ntmps12
  go_wp2_with fail
  have h1 : ((w.alloc (.cells #[.slice none 0 0, .int .i64 0, .int .i64 9, .slice none 0 0] 52)).alloc (.cells #[.int .i64 5, .int .i64 3, .int .i64 9, .int .i64 0] 3)).heap[w.heap.size]? = some (.cells #[.slice none 0 0, .int .i64 0, .int .i64 9, .slice none 0 0] 52) := heap_alloc_old' _ _ _
  have h2 : ((w.alloc (.cells #[.slice none 0 0, .int .i64 0, .int .i64 9, .slice none 0 0] 52)).alloc (.cells #[.int .i64 5, .int .i64 3, .int .i64 9, .int .i64 0] 3)).heap[w.heap.size + 1]? = some (.cells #[.int .i64 5, .int .i64 3, .int .i64 9, .int .i64 0] 3) := heap_alloc_new' _ _ _
  refine (splitAt_any _ _ [⟨[], 0, 9, []⟩] [5, 3, 9, 0] _ (Sl.of_block h1 (Els.one ⟨_, _, rfl, Sl.nil _ _ _ _ _, Sl.nil _ _ _ _ _⟩) id rfl (by decide) (by decide))
    (Sl.of_block h2 (Els.cons (cs := [.int .i64 5]) rfl (Els.cons (cs := [.int .i64 3]) rfl (Els.cons (cs := [.int .i64 9]) rfl (Els.one (cs := [.int .i64 0]) rfl)))) id rfl (by decide) (by decide)) (by intro t ht; simp at ht; subst ht; simp) (by decide) (by decide)).mono ?_
  rintro e w1 ⟨v, rfl, hO, hb⟩
  rw [awake_split] at hO
  have hS := hO.sl
  obtain ⟨a, c, rfl⟩ := hS.shape
  obtain ⟨b, o, _, _, _, _, rfl, _, _, _, x1, x2, _⟩ := tups_at (k := 0) hS rfl
  obtain ⟨b', o', _, _, _, _, e', _, _, _, y1, y2, _⟩ := tups_at (k := 1) hS rfl
  obtain ⟨b'', o'', _, _, _, _, e'', _, _, _, z1, z2, _⟩ := tups_at (k := 2) hS rfl
  cases e'
  cases e''
  clear hS hO h1 h2
  have HB : Hid (Below w.heap.size w w1) := (below_alloc_two w _ _).trans (hb.mono (by simp; omega))
  clear hb
  simp at x1 x2 y1 y2 z1 z2
  have q1 := per_eql 0 3 0 3
  have q2 := per_eql 3 5 3 5
  have q3 := per_eql 5 9 5 9
  simp at q1 q2 q3
  go_wp2_with fail
  go_ret
  exact ⟨rfl, HB.out⟩
end Go.Proofs.YtngigmpaabmngaaGreatDoor

namespace Go.Proofs.YtngigmpaabmngaaGreatDoor
open Go.RowKit Go.Lib

theorem pieces_ends (vals : List GVal) (lin : List Int) (hi : Int) (ps : List Int) : ∀ lo, (∀ x ∈ ps, lo < x) → ps.Pairwise (· < ·) → ∀ t ∈ pieces vals lin hi lo ps, (t.lo = lo ∨ t.lo ∈ ps) ∧ (t.hi = hi ∨ t.hi ∈ ps) ∧ (lo ≤ t.lo) ∧ ∀ x ∈ ps, ¬ (t.lo < x ∧ x < t.hi) := by
  induction ps with
  | nil =>
    intro lo _ _ t ht
    simp [pieces] at ht
    subst ht
    exact ⟨.inl rfl, .inl rfl, Int.le_refl _, by simp⟩
  | cons p ps ih =>
    intro lo hgt hs t ht
    have hp := hgt p (List.mem_cons_self ..)
    rw [List.pairwise_cons] at hs
    rw [pieces] at ht
    rcases List.mem_cons.1 ht with rfl | ht
    · refine ⟨.inl rfl, .inr (List.mem_cons_self ..), Int.le_refl _, fun x hx => ?_⟩
      rcases List.mem_cons.1 hx with rfl | hx
      · simp
      · have := hs.1 x hx; simp; omega
    · obtain ⟨h1, h2, h3, h4⟩ := ih p hs.1 hs.2 t ht
      refine ⟨.inr ?_, h2.imp id (List.mem_cons_of_mem _), by omega, fun x hx => ?_⟩
      · rcases h1 with h1 | h1
        · rw [h1]; exact List.mem_cons_self ..
        · exact List.mem_cons_of_mem _ h1
      · rcases List.mem_cons.1 hx with rfl | hx
        · omega
        · exact h4 x hx
theorem pieces_within (vals : List GVal) (lin : List Int) (hi : Int) (ps : List Int) : ∀ lo, lo ≤ hi → (∀ x ∈ ps, lo < x ∧ x < hi) → ps.Pairwise (· < ·) → ∀ t ∈ pieces vals lin hi lo ps, lo ≤ t.lo ∧ t.hi ≤ hi := by
  induction ps with
  | nil =>
    intro lo _ _ _ t ht
    simp [pieces] at ht
    subst ht
    exact ⟨Int.le_refl _, Int.le_refl _⟩
  | cons p ps ih =>
    intro lo hle hgt hs t ht
    have hp := hgt p (List.mem_cons_self ..)
    rw [List.pairwise_cons] at hs
    rw [pieces] at ht
    rcases List.mem_cons.1 ht with rfl | ht
    · exact ⟨Int.le_refl _, by have := hp.2; simp; omega⟩
    · obtain ⟨h1, h2⟩ := ih p (by omega) (fun x hx => ⟨hs.1 x hx, (hgt x (List.mem_cons_of_mem _ hx)).2⟩) hs.2 t ht
      exact ⟨by omega, h2⟩
/-- A piece ends at points or where its tuple does, and has no point inside. -/
theorem splitAt_piece {l : List Tup} {ps : List Int} {t : Tup} (ht : t ∈ splitAt l ps) : (t.lo ∈ allEnds l ∨ t.lo ∈ ps) ∧ (t.hi ∈ allEnds l ∨ t.hi ∈ ps) ∧ ∀ x ∈ ps, ¬ (t.lo < x ∧ x < t.hi) := by
  obtain ⟨x, hx, hxt⟩ := List.mem_flatMap.1 ht
  rw [splitOne_inner] at hxt
  split at hxt
  · rename_i hv
    have hv' : 0 ≤ x.lo ∧ x.lo < x.hi ∧ x.hi ≤ 1099511627776 := by simpa [pvalid] using hv
    have hin : ∀ y ∈ inner x.lo x.hi ps, x.lo < y ∧ y < x.hi := fun y hy => ((inner_mem _ _ _ _).1 hy).2
    obtain ⟨h1, h2, _, h4⟩ := pieces_ends _ _ _ _ _ (fun y hy => (hin y hy).1) (inner_asc _ _ _) t hxt
    obtain ⟨h5, h6⟩ := pieces_within _ _ _ _ _ (by omega) hin (inner_asc _ _ _) t hxt
    have he : x.lo ∈ allEnds l ∧ x.hi ∈ allEnds l := by
      constructor <;> exact List.mem_flatMap.2 ⟨x, hx, by rw [ends, if_pos hv]; simp⟩
    refine ⟨?_, ?_, fun y hy hin' => ?_⟩
    · rcases h1 with h1 | h1
      · rw [h1]; exact .inl he.1
      · exact .inr ((inner_mem _ _ _ _).1 h1).1
    · rcases h2 with h2 | h2
      · rw [h2]; exact .inl he.2
      · exact .inr ((inner_mem _ _ _ _).1 h2).1
    · exact h4 y ((inner_mem _ _ _ _).2 ⟨hy, by omega, by omega⟩) hin'
  · cases hxt
theorem allEnds_append (a b : List Tup) : allEnds (a ++ b) = allEnds a ++ allEnds b := by simp [allEnds]
theorem aligned (a b : List Tup) (s t : Tup) (hs : s ∈ splitAt a (bnds (a ++ b))) (ht : t ∈ splitAt b (bnds (a ++ b))) (h1 : s.lo < t.hi) (h2 : t.lo < s.hi) : s.lo = t.lo ∧ s.hi = t.hi := by
  obtain ⟨s1, s2, s3⟩ := splitAt_piece hs
  obtain ⟨t1, t2, t3⟩ := splitAt_piece ht
  have ha : ∀ x, x ∈ allEnds a → x ∈ bnds (a ++ b) := fun x hx => by rw [bnds_mem, allEnds_append]; exact List.mem_append_left _ hx
  have hb : ∀ x, x ∈ allEnds b → x ∈ bnds (a ++ b) := fun x hx => by rw [bnds_mem, allEnds_append]; exact List.mem_append_right _ hx
  have s1 := s1.elim (ha _) id
  have s2 := s2.elim (ha _) id
  have t1 := t1.elim (hb _) id
  have t2 := t2.elim (hb _) id
  have a1 := s3 _ t1
  have a2 := s3 _ t2
  have a3 := t3 _ s1
  have a4 := t3 _ s2
  have hsv : s.lo < s.hi ∨ s.hi ≤ s.lo := by omega
  have htv : t.lo < t.hi ∨ t.hi ≤ t.lo := by omega
  omega
theorem pieces_pos (vals : List GVal) (lin : List Int) (hi : Int) (ps : List Int) (lo : Int) : 1 ≤ (pieces vals lin hi lo ps).length := by
  cases ps <;> simp [pieces]
theorem splitAt_longer (l : List Tup) (ps : List Int) (h : ∀ t ∈ l, pvalid t.lo t.hi = true) : l.length ≤ (splitAt l ps).length := by
  induction l with
  | nil => simp
  | cons t l ih =>
    have e : splitAt (t :: l) ps = splitOne (srt ps) t ++ splitAt l ps := rfl
    rw [e, List.length_append, splitOne_inner, if_pos (h t (List.mem_cons_self ..)), List.length_cons]
    have h1 := pieces_pos t.vals t.lin t.hi (inner t.lo t.hi ps) t.lo
    have h2 := ih (fun x hx => h x (List.mem_cons_of_mem _ hx))
    omega
theorem tupOf_valid (x : U5) : pvalid (tupOf x).lo (tupOf x).hi = true := by
  have h : pvalid (gper x.x0 x.x1).1 (gper x.x0 x.x1).2 = true := by
    unfold gper pvalid
    dsimp only
    rw [decide_eq_true_eq]
    split <;> omega
  exact h
theorem tupsOf_valid (l : List U5) (m : Nat) : ∀ t ∈ tupsOf l m, pvalid t.lo t.hi = true := by
  intro t ht
  obtain ⟨x, _, rfl⟩ := List.mem_map.1 ht
  exact tupOf_valid x
theorem tupsOf_small (l : List U5) (m : Nat) : ∀ t ∈ tupsOf l m, t.vals.length ≤ 1000 ∧ t.lin.length ≤ 1000 := by
  intro t ht
  obtain ⟨x, _, rfl⟩ := List.mem_map.1 ht
  simp [tupOf, gtup]
end Go.Proofs.YtngigmpaabmngaaGreatDoor

namespace Go.Proofs.YtngigmpaabmngaaGreatDoor
open Go.RowKit Go.Lib

theorem atDay_pieces (vals : List GVal) (lin : List Int) (hi : Int) (t : Int) (ps : List Int) : ∀ lo, 0 ≤ lo → lo < hi → hi ≤ 1099511627776 → (∀ x ∈ ps, lo < x ∧ x < hi) → ps.Pairwise (· < ·) →
    atDay (pieces vals lin hi lo ps) t = if pincl lo hi t = true then [⟨vals, lin⟩] else [] := by
  induction ps with
  | nil =>
    intro lo _ _ _ _ _
    rw [pieces, atDay_cons]
    rfl
  | cons p ps ih =>
    intro lo h0 hlt h40 hin hs
    rw [List.pairwise_cons] at hs
    have hp := hin p (List.mem_cons_self ..)
    rw [pieces, atDay_cons, ih p (by omega) hp.2 h40 (fun x hx => ⟨hs.1 x hx, (hin x (List.mem_cons_of_mem _ hx)).2⟩) hs.2]
    have e1 : pincl lo p t = true ↔ lo ≤ t ∧ t < p := by
      rw [pincl_iff]; unfold pvalid; simp only [decide_eq_true_eq]; omega
    have e2 : pincl p hi t = true ↔ p ≤ t ∧ t < hi := by
      rw [pincl_iff]; unfold pvalid; simp only [decide_eq_true_eq]; omega
    have e3 : pincl lo hi t = true ↔ lo ≤ t ∧ t < hi := by
      rw [pincl_iff]; unfold pvalid; simp only [decide_eq_true_eq]; omega
    dsimp only
    by_cases hm : t < p
    · rw [if_neg (c := pincl p hi t = true) (by rw [e2]; omega)]
      by_cases hl : lo ≤ t
      · rw [if_pos (e1.2 ⟨hl, hm⟩), if_pos (e3.2 ⟨hl, by omega⟩)]; rfl
      · rw [if_neg (by rw [e1]; omega), if_neg (by rw [e3]; omega)]
    · rw [if_neg (c := pincl lo p t = true) (by rw [e1]; omega)]
      by_cases hh : t < hi
      · rw [if_pos (e2.2 ⟨by omega, hh⟩), if_pos (e3.2 ⟨by omega, hh⟩)]
      · rw [if_neg (by rw [e2]; omega), if_neg (by rw [e3]; omega)]
theorem atDay_split (l : List Tup) (ps : List Int) (t : Int) : atDay (splitAt l ps) t = atDay l t := by
  induction l with
  | nil => rfl
  | cons x l ih =>
    have e : splitAt (x :: l) ps = splitOne (srt ps) x ++ splitAt l ps := rfl
    rw [e, atDay_append, ih, atDay_cons, splitOne_inner]
    by_cases hv : pvalid x.lo x.hi = true
    · have hv' : 0 ≤ x.lo ∧ x.lo < x.hi ∧ x.hi ≤ 1099511627776 := by simpa [pvalid] using hv
      rw [if_pos hv, atDay_pieces _ _ _ _ _ _ hv'.1 hv'.2.1 hv'.2.2 (fun y hy => ((inner_mem _ _ _ _).1 hy).2) (inner_asc _ _ _)]
      split <;> rfl
    · rw [if_neg hv, if_neg (fun h => hv (pincl_iff.1 h).1)]
      rfl
theorem split_keyable {l : List Tup} {ps : List Int} (h : ∀ x ∈ l, Keyable x.row) : ∀ x ∈ splitAt l ps, Keyable x.row := by
  intro x hx
  obtain ⟨y, hy, hxy⟩ := List.mem_flatMap.1 hx
  rw [splitOne_inner] at hxy
  split at hxy
  · have := pieces_row _ _ _ _ _ x hxy
    have e : x.row = y.row := by unfold Tup.row; rw [this.1, this.2]
    rw [e]; exact h y hy
  · cases hxy
theorem nf_split {l S T : List Tup} {ps : List Int} (h : IsNF (splitAt l ps) S) (k : IsNF l T) : S = T :=
  IsNF.unique (l := l) ⟨h.lev, h.sorted, fun t => (h.day t).trans (by rw [atDay_split])⟩ k
set_option maxHeartbeats 8000000 in
set_option maxRecDepth 100000 in
theorem sequiv_walk (v u : Value) (xs : List U5) (ps : List Int) (w : World) (hv : Sl u5E w free v xs) (hok : ∀ x ∈ xs, x.ok) (hu : Sl intE w free u ps) (hT : Pow w) :
    Calls Tryz.prog 3 #[v, u] w fun e w' => e = .returned (.bool true) ∧ Below w.heap.size w w' := by
  obtain ⟨pa, pc, rfl⟩ := hu.shape
  have HTU := Lib.hid (tuples_any v xs 10 (by decide) w hv hok)
  have hk := tups_keyable xs 10
  have hs := tups_small xs 10
  have hl := tupsOf_length xs 10
  have hge := splitAt_longer (tupsOf xs 10) ps (tupsOf_valid xs 10)
  obtain ⟨l, hl0⟩ : ∃ l, l = tupsOf xs 10 := ⟨_, rfl⟩
  rw [← hl0] at HTU hk hs hl hge
  have HK := Lib.hid hk
  have HS := Lib.hid hs
  have HT := Lib.hid hT
  have HU := Lib.hid hu
  obtain ⟨np, hnp⟩ : ∃ n, n = ps.length := ⟨_, rfl⟩
  have HNP := Lib.hid hnp
  rw [← hnp] at HU ⊢
  have hn63 : np ≤ 9223372036854775807 := by have := hu.1; omega
  clear hv hok hk hs hT hl0 hu hnp
  go_enter Tryz.func3, Tryz.ntmps3
  go_wp2_with fail
  refine HTU.out.mono ?_
  rintro _ w1 ⟨vl, rfl, hO1, hb1⟩
  obtain ⟨al, cl, rfl⟩ := hO1.shape
  have HL1 := Lib.hid hO1.sl
  have HB1 := Lib.hid hb1
  have HU1 := Lib.hid (HU.out.below hb1)
  clear hO1 hb1 HTU
  by_cases h20 : np ≤ 20
  · have h20i : ¬ (20 : Int) < (np : Int) := by omega
    have hsz : l.length * (ps.length + 1) ≤ 10 * (20 + 1) := Nat.mul_le_mul hl (by rw [← HNP.out]; omega)
    have hsl := splitAt_length l ps
    have HSP := Lib.hid (splitAt_any _ _ l ps w1 HL1.out HU1.out HS.out (by omega) (by rw [← HNP.out]; omega))
    obtain ⟨s, hs0⟩ : ∃ s, s = splitAt l ps := ⟨_, rfl⟩
    have HKS : Hid (∀ x ∈ s, Keyable x.row) := Lib.hid (by rw [hs0]; exact split_keyable HK.out)
    have HDS : Hid (∀ t, atDay s t = atDay l t) := Lib.hid (by rw [hs0]; exact atDay_split l ps)
    have HNS : Hid (∀ S T, IsNF s S → IsNF l T → S = T) := Lib.hid (by rw [hs0]; exact fun S T h k => nf_split h k)
    rw [← hs0] at HSP hge hsl
    have hs100 : s.length ≤ 1000 := by omega
    obtain ⟨nl, hnl⟩ : ∃ n, n = l.length := ⟨_, rfl⟩
    obtain ⟨ns, hns⟩ : ∃ n, n = s.length := ⟨_, rfl⟩
    have HNL := Lib.hid hnl
    have HNS2 := Lib.hid hns
    rw [← hnl] at HL1 hl hge HSP ⊢
    rw [← hns] at hge hs100
    have hgi : ¬ (ns : Int) < (nl : Int) := by omega
    have hgj : (nl : Int) ≤ (ns : Int) := by omega
    clear hsz hsl hs0 hnl hns
    go_wp2_with fail
    refine HSP.out.mono ?_
    rintro _ w2 ⟨vs, rfl, hO2, hb2⟩
    obtain ⟨aS0, cS0, rfl⟩ := hO2.shape
    have HS2 := Lib.hid hO2.sl
    rw [← HNS2.out] at HS2 ⊢
    have HL2 := Lib.hid (HL1.out.below hb2)
    have HB2 := Lib.hid (below_keep HB1.out hb2)
    have HAW := Lib.hid (awake_any w2)
    clear hO2 hb2 HSP HL1
    go_wp2_with fail
    refine HAW.out.mono ?_
    rintro _ w3 ⟨rfl, hb3⟩
    have HS3 := Lib.hid (HS2.out.below hb3)
    have HL3 := Lib.hid (HL2.out.below hb3)
    have HB3 := Lib.hid (below_keep HB2.out hb3)
    have HE := Lib.hid (equiv_any _ _ s l w3 HS3.out HL3.out (by rw [← HNS2.out]; omega) (by rw [← HNL.out]; omega) HKS.out HK.out (HT.out.below HB3.out))
    clear hb3 HS2 HL2 HAW
    go_wp2_with fail
    refine HE.out.mono ?_
    rintro _ w4 ⟨q, hq, rfl, hb4⟩
    obtain rfl : q = true := hq.out.2 fun t => by rw [HDS.out t]
    have HS4 := Lib.hid (HS3.out.below hb4)
    have HL4 := Lib.hid (HL3.out.below hb4)
    have HB4 := Lib.hid (below_keep HB3.out hb4)
    have HN1 := Lib.hid (normalize_any _ s w4 HS4.out (by rw [← HNS2.out]; omega) HKS.out (HT.out.below HB4.out))
    clear hb4 hq HS3 HL3 HE
    go_wp2_with fail
    refine HN1.out.mono ?_
    rintro _ w5 ⟨S, hS, hSl, vS, rfl, hO5, hb5⟩
    have HS := Lib.hid hS
    obtain ⟨aS, cS, rfl⟩ := hO5.shape
    have HS5 := Lib.hid hO5.sl
    have HL5 := Lib.hid (HL4.out.below hb5)
    have HB5 := Lib.hid (below_keep HB4.out hb5)
    have HN2 := Lib.hid (normalize_any _ l w5 HL5.out (by rw [← HNL.out]; omega) HK.out (HT.out.below HB5.out))
    clear hb5 hS hSl hO5 HS4 HL4 HN1
    generalize hnS : S.length = nS at HS5 ⊢
    have HnS := Lib.hid hnS
    clear hnS
    go_wp2_with fail
    refine HN2.out.mono ?_
    rintro _ w6 ⟨T, hT, hTl, vT, rfl, hO6, hb6⟩
    obtain rfl : S = T := HNS.out S T HS.out hT
    have HT6 := Lib.hid hO6.sl
    have HS6 := Lib.hid (HS5.out.below hb6)
    have HB6 := Lib.hid (below_keep HB5.out hb6)
    have HST := Lib.hid (sameTups_any _ _ S S w6 HS6.out HT6.out)
    rw [sameTups_refl] at HST
    clear hb6 hT hTl hO6 HN2
    go_wp2_with fail
    refine HST.out.mono ?_
    rintro _ w7 ⟨rfl, hb7⟩
    have HB7 := Lib.hid (below_keep HB6.out hb7)
    clear hb7
    go_wp2_with fail
    go_ret
    exact ⟨rfl, HB7.out⟩
  · have h20i : (20 : Int) < (np : Int) := by omega
    have HAW := Lib.hid (awake_any w1)
    go_wp2_with fail
    refine HAW.out.mono ?_
    rintro _ w2 ⟨rfl, hb2⟩
    have HB2 := Lib.hid (below_keep HB1.out hb2)
    clear hb2
    go_wp2_with fail
    go_ret
    exact ⟨rfl, HB2.out⟩
end Go.Proofs.YtngigmpaabmngaaGreatDoor

namespace Go.Proofs.YtngigmpaabmngaaGreatDoor
open Go.RowKit Go.Lib Go.Shelf

theorem few_of {l : List Tup} {m : Nat} (h : few l m = true) : l.length ≤ m ∧ ∀ t ∈ l, t.vals.length ≤ 1000 ∧ t.lin.length ≤ 1000 := by
  simp [few, small] at h
  exact ⟨h.1, fun t ht => by have := h.2 t ht; omega⟩

end Go.Proofs.YtngigmpaabmngaaGreatDoor

namespace Go.Proofs.YtngigmpaabmngaaGreatDoor
open Go.RowKit Go.Lib

theorem mem_two {P : Tup → Prop} {a b : List Tup} (h : ∀ x ∈ a, P x) (k : ∀ x ∈ b, P x) : ∀ x ∈ a ++ b, P x := fun x hx => (List.mem_append.1 hx).elim (h x) (k x)
theorem mem_left {P : Tup → Prop} {a b : List Tup} (h : ∀ x ∈ a ++ b, P x) : ∀ x ∈ a, P x := fun x hx => h x (List.mem_append.2 (.inl hx))
theorem mem_right {P : Tup → Prop} {a b : List Tup} (h : ∀ x ∈ a ++ b, P x) : ∀ x ∈ b, P x := fun x hx => h x (List.mem_append.2 (.inr hx))
theorem sop_small {n : Nat} (h : n ≤ 208) : (n * 2) * n ≤ 100000 := Nat.le_trans (Nat.mul_le_mul (Nat.mul_le_mul_right 2 h) h) (by decide)
theorem tups_lin1 (l : List U5) (m : Nat) : ∀ x ∈ tupsOf l m, x.lin.length ≤ 1 := by
  intro x hx
  obtain ⟨u, _, rfl⟩ := List.mem_map.1 hx
  exact Nat.le_refl _
theorem split_row {l : List Tup} {ps : List Int} : ∀ x ∈ splitAt l ps, ∃ y ∈ l, x.row = y.row := by
  intro x hx
  obtain ⟨y, hy, hxy⟩ := List.mem_flatMap.1 hx
  rw [splitOne_inner] at hxy
  split at hxy
  · have := pieces_row _ _ _ _ _ x hxy
    exact ⟨y, hy, by unfold Tup.row; rw [this.1, this.2]⟩
  · cases hxy
theorem split_lin {l : List Tup} {ps : List Int} {q : Nat} (h : ∀ x ∈ l, x.lin.length ≤ q) : ∀ x ∈ splitAt l ps, x.lin.length ≤ q := by
  intro x hx
  obtain ⟨y, hy, e⟩ := split_row x hx
  have : x.lin = y.lin := congrArg GRow.lin e
  rw [this]
  exact h y hy
theorem sameTups_true (v u : Value) (l : List Tup) (w : World) (hp : Tups w v l) (hp2 : Tups w u l) :
    Calls Tryz.prog 15 #[v, u] w fun e w' => e = .returned (.bool true) ∧ Below w.heap.size w w' := by
  have h := sameTups_any v u l l w hp hp2
  rw [sameTups_iff.2 rfl] at h
  exact h
set_option maxHeartbeats 8000000 in
set_option maxRecDepth 100000 in
theorem ssplit_walk (v u z : Value) (xs ys : List U5) (ps : List Int) (w : World) (hv : Sl u5E w free v xs) (hok : ∀ x ∈ xs, x.ok) (hu : Sl u5E w free u ys) (hok2 : ∀ x ∈ ys, x.ok) (hz : Sl intE w free z ps) (hT : Pow w) :
    Calls Tryz.prog 10 #[v, u, z] w fun e w' => e = .returned (.bool true) ∧ Below w.heap.size w w' := by
  obtain ⟨pa, pc, rfl⟩ := hz.shape
  have HT := Lib.hid hT
  obtain ⟨np, hnp⟩ : ∃ n, n = ps.length := ⟨_, rfl⟩
  have HNP := Lib.hid hnp
  have HZ := Lib.hid hz
  rw [← hnp] at HZ ⊢
  have hn63 : np ≤ 9223372036854775807 := by have := hz.1; omega
  by_cases h12 : np ≤ 12
  · have h12i : ¬ (12 : Int) < (np : Int) := by omega
    have HTA := Lib.hid (tuples_any v xs 8 (by decide) w hv hok)
    have HTB := Lib.hid (fun W (h : Below w.heap.size w W) => tuples_any u ys 8 (by decide) W (hu.below h) hok2)
    have hla := tupsOf_length xs 8
    have hlb := tupsOf_length ys 8
    have hka := mem_two (tups_keyable xs 8) (tups_keyable ys 8)
    have hqa := mem_two (tups_lin1 xs 8) (tups_lin1 ys 8)
    have hsa := tups_small xs 8
    have hsb := tups_small ys 8
    obtain ⟨a, ha⟩ : ∃ l, l = tupsOf xs 8 := ⟨_, rfl⟩
    obtain ⟨b, hb⟩ : ∃ l, l = tupsOf ys 8 := ⟨_, rfl⟩
    rw [← ha] at HTA hla hka hqa hsa
    rw [← hb] at HTB hlb hka hqa hsb
    have hlc := splitAt_length a ps
    have hld := splitAt_length b ps
    have hlc2 : a.length * (ps.length + 1) ≤ 8 * (12 + 1) := Nat.mul_le_mul hla (by omega)
    have hld2 : b.length * (ps.length + 1) ≤ 8 * (12 + 1) := Nat.mul_le_mul hlb (by omega)
    have hkc : ∀ x ∈ splitAt a ps ++ splitAt b ps, Keyable x.row := mem_two (split_keyable (mem_left hka)) (split_keyable (mem_right hka))
    have hqc : ∀ x ∈ splitAt a ps ++ splitAt b ps, x.lin.length ≤ 1 := mem_two (split_lin (mem_left hqa)) (split_lin (mem_right hqa))
    have hdc := atDay_split a ps
    have hdd := atDay_split b ps
    have HSC := Lib.hid (fun W (h1 : Tups W (.slice none 0 0) []) => h1)
    have CSA := Lib.hid (fun (vv : Value) W (h1 : Tups W vv a) (h2 : Below w.heap.size w W) => splitAt_any vv (.slice pa np pc) a ps W h1 (HZ.out.below h2) hsa (by omega) (by omega))
    have CSB := Lib.hid (fun (vv : Value) W (h1 : Tups W vv b) (h2 : Below w.heap.size w W) => splitAt_any vv (.slice pa np pc) b ps W h1 (HZ.out.below h2) hsb (by omega) (by omega))
    obtain ⟨c, hc⟩ : ∃ l, l = splitAt a ps := ⟨_, rfl⟩
    obtain ⟨d, hd⟩ : ∃ l, l = splitAt b ps := ⟨_, rfl⟩
    rw [← hc] at hlc hkc hqc hdc CSA
    rw [← hd] at hld hkc hqc hdd CSB
    have HKA := Lib.hid hka
    have HQA := Lib.hid hqa
    have HKC := Lib.hid hkc
    have HQC := Lib.hid hqc
    have HDC := Lib.hid hdc
    have HDD := Lib.hid hdd
    have hc104 : c.length ≤ 104 := by omega
    have hd104 : d.length ≤ 104 := by omega
    have HPE : Hid (∀ f S T, NFS f c d S → NFS f a b T → T = S) := Lib.hid (fun f S T h k => k.unique (h.perm (fun t => by rw [HDC.out t]) (fun t => by rw [HDD.out t])))
    have HPD : Hid (∀ f S T, NFS f c [] S → NFS f a [] T → T = S) := Lib.hid (fun f S T h k => k.unique (h.perm (fun t => by rw [HDC.out t]) (fun t => .refl _)))
    have HPU : Hid (∀ S T, IsNF (c ++ d) S → IsNF (a ++ b) T → T = S) := Lib.hid (fun S T h k => k.unique (h.congr fun t => by rw [atDay_append, atDay_append, HDC.out t, HDD.out t]))
    clear hv hok hu hok2 hz hT hnp ha hb hc hd hka hqa hkc hqc hdc hdd hsa hsb hlc hld hlc2 hld2 HSC
    go_enter Tryz.func10, Tryz.ntmps10
    have HC1 := Lib.hid (HTA.out)
    go_wp2_with fail
    refine HC1.out.mono ?_
    rintro _ w1 ⟨vA, rfl, hOA, hb1⟩
    obtain ⟨aA, cA, rfl⟩ := hOA.shape
    have HB_1 := Lib.hid hb1
    have A_1 := Lib.hid (hOA.sl)
    clear hb1 HC1  hOA HTA
    have HC2 := Lib.hid (HTB.out w1 HB_1.out)
    go_wp2_with fail
    refine HC2.out.mono ?_
    rintro _ w2 ⟨vB, rfl, hOB, hb2⟩
    obtain ⟨aB, cB, rfl⟩ := hOB.shape
    have A_2 := Lib.hid (A_1.out.below hb2)
    have HB_2 := Lib.hid (below_keep HB_1.out hb2)
    have B_2 := Lib.hid (hOB.sl)
    clear hb2 HC2 A_1 HB_1 hOB HTB
    have HC3 := Lib.hid (CSA.out _ w2 A_2.out HB_2.out)
    go_wp2_with fail
    refine HC3.out.mono ?_
    rintro _ w3 ⟨vC, rfl, hOC, hb3⟩
    obtain ⟨aC, cC, rfl⟩ := hOC.shape
    have A_3 := Lib.hid (A_2.out.below hb3)
    have B_3 := Lib.hid (B_2.out.below hb3)
    have HB_3 := Lib.hid (below_keep HB_2.out hb3)
    have C_3 := Lib.hid (hOC.sl)
    clear hb3 HC3 A_2 B_2 HB_2 hOC CSA
    have HC4 := Lib.hid (CSB.out _ w3 B_3.out HB_3.out)
    go_wp2_with fail
    refine HC4.out.mono ?_
    rintro _ w4 ⟨vD, rfl, hOD, hb4⟩
    obtain ⟨aD, cD, rfl⟩ := hOD.shape
    have A_4 := Lib.hid (A_3.out.below hb4)
    have B_4 := Lib.hid (B_3.out.below hb4)
    have C_4 := Lib.hid (C_3.out.below hb4)
    have HB_4 := Lib.hid (below_keep HB_3.out hb4)
    have D_4 := Lib.hid (hOD.sl)
    clear hb4 HC4 A_3 B_3 C_3 HB_3 hOD CSB
    have HC5 := Lib.hid (except_any _ _ a b 1 w4 A_4.out B_4.out HKA.out HQA.out (by omega) (sop_small (by omega)) (HT.out.below HB_4.out))
    go_wp2_with fail
    refine HC5.out.mono ?_
    rintro _ w5 ⟨L, hL, hlL, vL, rfl, hOL, hb5⟩
    obtain ⟨aL, cL, rfl⟩ := hOL.shape
    have NL := Lib.hid hL
    have ZL := Lib.hid hlL
    have A_5 := Lib.hid (A_4.out.below hb5)
    have B_5 := Lib.hid (B_4.out.below hb5)
    have C_5 := Lib.hid (C_4.out.below hb5)
    have D_5 := Lib.hid (D_4.out.below hb5)
    have HB_5 := Lib.hid (below_keep HB_4.out hb5)
    have FL_5 := Lib.hid (hOL.sl)
    clear hb5 HC5 A_4 B_4 C_4 D_4 HB_4 hOL hL hlL
    have HC6 := Lib.hid (awake15_any w5 (HT.out.below HB_5.out))
    go_wp2_with fail
    refine HC6.out.mono ?_
    rintro _ w6 ⟨rfl, hb6⟩
    have A_6 := Lib.hid (A_5.out.below hb6)
    have B_6 := Lib.hid (B_5.out.below hb6)
    have C_6 := Lib.hid (C_5.out.below hb6)
    have D_6 := Lib.hid (D_5.out.below hb6)
    have FL_6 := Lib.hid (FL_5.out.below hb6)
    have HB_6 := Lib.hid (below_keep HB_5.out hb6)
    clear hb6 HC6 A_5 B_5 C_5 D_5 FL_5 HB_5 
    have HC7 := Lib.hid (except_any _ _ c d 1 w6 C_6.out D_6.out HKC.out HQC.out (by omega) (sop_small (by omega)) (HT.out.below HB_6.out))
    go_wp2_with fail
    refine HC7.out.mono ?_
    rintro _ w7 ⟨L2, hL2, hlL2, vL2, rfl, hOL2, hb7⟩
    obtain ⟨aL2, cL2, rfl⟩ := hOL2.shape
    have NL2 := Lib.hid hL2
    have ZL2 := Lib.hid hlL2
    obtain rfl : L = L2 := HPE.out _ _ _ NL2.out NL.out
    have A_7 := Lib.hid (A_6.out.below hb7)
    have B_7 := Lib.hid (B_6.out.below hb7)
    have C_7 := Lib.hid (C_6.out.below hb7)
    have D_7 := Lib.hid (D_6.out.below hb7)
    have FL_7 := Lib.hid (FL_6.out.below hb7)
    have HB_7 := Lib.hid (below_keep HB_6.out hb7)
    have FL2_7 := Lib.hid (hOL2.sl)
    clear hb7 HC7 A_6 B_6 C_6 D_6 FL_6 HB_6 hOL2 hL2 hlL2
    have HC8 := Lib.hid (sameTups_true _ _ L w7 FL2_7.out FL_7.out)
    go_wp2_with fail
    refine HC8.out.mono ?_
    rintro _ w8 ⟨rfl, hb8⟩
    have A_8 := Lib.hid (A_7.out.below hb8)
    have B_8 := Lib.hid (B_7.out.below hb8)
    have C_8 := Lib.hid (C_7.out.below hb8)
    have D_8 := Lib.hid (D_7.out.below hb8)
    have FL_8 := Lib.hid (FL_7.out.below hb8)
    have FL2_8 := Lib.hid (FL2_7.out.below hb8)
    have HB_8 := Lib.hid (below_keep HB_7.out hb8)
    clear hb8 HC8 A_7 B_7 C_7 D_7 FL_7 FL2_7 HB_7 
    have HC9 := Lib.hid (normalize_any _ L w8 FL_8.out ZL.out (NFS.keyable (q := 1) fExc_zero NL.out HKA.out HQA.out (by omega)) (HT.out.below HB_8.out))
    go_wp2_with fail
    refine HC9.out.mono ?_
    rintro _ w9 ⟨M, hM, _, vM, rfl, hOM, hb9⟩
    obtain ⟨aM, cM, rfl⟩ := hOM.shape
    obtain rfl : L = M := (NL.out.again hM).symm
    have A_9 := Lib.hid (A_8.out.below hb9)
    have B_9 := Lib.hid (B_8.out.below hb9)
    have C_9 := Lib.hid (C_8.out.below hb9)
    have D_9 := Lib.hid (D_8.out.below hb9)
    have FL_9 := Lib.hid (FL_8.out.below hb9)
    have HB_9 := Lib.hid (below_keep HB_8.out hb9)
    have FM_9 := Lib.hid (hOM.sl)
    clear hb9 HC9 A_8 B_8 C_8 D_8 FL_8 HB_8 hOM hM
    have HC10 := Lib.hid (sameTups_true _ _ L w9 FM_9.out FL_9.out)
    go_wp2_with fail
    refine HC10.out.mono ?_
    rintro _ w10 ⟨rfl, hb10⟩
    have A_10 := Lib.hid (A_9.out.below hb10)
    have B_10 := Lib.hid (B_9.out.below hb10)
    have C_10 := Lib.hid (C_9.out.below hb10)
    have D_10 := Lib.hid (D_9.out.below hb10)
    have FL_10 := Lib.hid (FL_9.out.below hb10)
    have FM_10 := Lib.hid (FM_9.out.below hb10)
    have HB_10 := Lib.hid (below_keep HB_9.out hb10)
    clear hb10 HC10 A_9 B_9 C_9 D_9 FL_9 FM_9 HB_9 
    have HC11 := Lib.hid (intersect_any _ _ c d 1 w10 C_10.out D_10.out HKC.out HQC.out (by omega) (sop_small (by omega)) (HT.out.below HB_10.out))
    go_wp2_with fail
    refine HC11.out.mono ?_
    rintro _ w11 ⟨I2, hI2, hlI2, vI2, rfl, hOI2, hb11⟩
    obtain ⟨aI2, cI2, rfl⟩ := hOI2.shape
    have NI2 := Lib.hid hI2
    have ZI2 := Lib.hid hlI2
    have A_11 := Lib.hid (A_10.out.below hb11)
    have B_11 := Lib.hid (B_10.out.below hb11)
    have C_11 := Lib.hid (C_10.out.below hb11)
    have D_11 := Lib.hid (D_10.out.below hb11)
    have HB_11 := Lib.hid (below_keep HB_10.out hb11)
    have FI2_11 := Lib.hid (hOI2.sl)
    clear hb11 HC11 A_10 B_10 C_10 D_10 HB_10 hOI2 hI2 hlI2
    have HC12 := Lib.hid (intersect_any _ _ a b 1 w11 A_11.out B_11.out HKA.out HQA.out (by omega) (sop_small (by omega)) (HT.out.below HB_11.out))
    go_wp2_with fail
    refine HC12.out.mono ?_
    rintro _ w12 ⟨I, hI, hlI, vI, rfl, hOI, hb12⟩
    obtain ⟨aI, cI, rfl⟩ := hOI.shape
    have NI := Lib.hid hI
    have ZI := Lib.hid hlI
    obtain rfl : I2 = I := (HPE.out _ _ _ NI2.out NI.out).symm
    have A_12 := Lib.hid (A_11.out.below hb12)
    have B_12 := Lib.hid (B_11.out.below hb12)
    have C_12 := Lib.hid (C_11.out.below hb12)
    have D_12 := Lib.hid (D_11.out.below hb12)
    have FI2_12 := Lib.hid (FI2_11.out.below hb12)
    have HB_12 := Lib.hid (below_keep HB_11.out hb12)
    have FI_12 := Lib.hid (hOI.sl)
    clear hb12 HC12 A_11 B_11 C_11 D_11 FI2_11 HB_11 hOI hI hlI
    have HC13 := Lib.hid (sameTups_true _ _ I2 w12 FI2_12.out FI_12.out)
    go_wp2_with fail
    refine HC13.out.mono ?_
    rintro _ w13 ⟨rfl, hb13⟩
    have A_13 := Lib.hid (A_12.out.below hb13)
    have B_13 := Lib.hid (B_12.out.below hb13)
    have C_13 := Lib.hid (C_12.out.below hb13)
    have D_13 := Lib.hid (D_12.out.below hb13)
    have FI2_13 := Lib.hid (FI2_12.out.below hb13)
    have FI_13 := Lib.hid (FI_12.out.below hb13)
    have HB_13 := Lib.hid (below_keep HB_12.out hb13)
    clear hb13 HC13 A_12 B_12 C_12 D_12 FI2_12 FI_12 HB_12 
    have HC14 := Lib.hid (union_any _ _ c d w13 C_13.out D_13.out (by omega) HKC.out (HT.out.below HB_13.out))
    go_wp2_with fail
    refine HC14.out.mono ?_
    rintro _ w14 ⟨U2, hU2, _, vU2, rfl, hOU2, hb14⟩
    obtain ⟨aU2, cU2, rfl⟩ := hOU2.shape
    have NU2 := Lib.hid hU2
    have A_14 := Lib.hid (A_13.out.below hb14)
    have B_14 := Lib.hid (B_13.out.below hb14)
    have C_14 := Lib.hid (C_13.out.below hb14)
    have D_14 := Lib.hid (D_13.out.below hb14)
    have HB_14 := Lib.hid (below_keep HB_13.out hb14)
    have FU2_14 := Lib.hid (hOU2.sl)
    clear hb14 HC14 A_13 B_13 C_13 D_13 HB_13 hOU2 hU2
    have HC15 := Lib.hid (union_any _ _ a b w14 A_14.out B_14.out (by omega) HKA.out (HT.out.below HB_14.out))
    go_wp2_with fail
    refine HC15.out.mono ?_
    rintro _ w15 ⟨U, hU, _, vU, rfl, hOU, hb15⟩
    obtain ⟨aU, cU, rfl⟩ := hOU.shape
    obtain rfl : U2 = U := (HPU.out _ _ NU2.out hU).symm
    have A_15 := Lib.hid (A_14.out.below hb15)
    have B_15 := Lib.hid (B_14.out.below hb15)
    have C_15 := Lib.hid (C_14.out.below hb15)
    have D_15 := Lib.hid (D_14.out.below hb15)
    have FU2_15 := Lib.hid (FU2_14.out.below hb15)
    have HB_15 := Lib.hid (below_keep HB_14.out hb15)
    have FU_15 := Lib.hid (hOU.sl)
    clear hb15 HC15 A_14 B_14 C_14 D_14 FU2_14 HB_14 hOU hU
    have HC16 := Lib.hid (sameTups_true _ _ U2 w15 FU2_15.out FU_15.out)
    go_wp2_with fail
    refine HC16.out.mono ?_
    rintro _ w16 ⟨rfl, hb16⟩
    have A_16 := Lib.hid (A_15.out.below hb16)
    have B_16 := Lib.hid (B_15.out.below hb16)
    have C_16 := Lib.hid (C_15.out.below hb16)
    have D_16 := Lib.hid (D_15.out.below hb16)
    have FU2_16 := Lib.hid (FU2_15.out.below hb16)
    have FU_16 := Lib.hid (FU_15.out.below hb16)
    have HB_16 := Lib.hid (below_keep HB_15.out hb16)
    clear hb16 HC16 A_15 B_15 C_15 D_15 FU2_15 FU_15 HB_15 
    have HC17 := Lib.hid (distinct_any _ c 1 w16 C_16.out (mem_left HKC.out) (mem_left HQC.out) (by simp; omega) (sop_small (by simp; omega)) (HT.out.below HB_16.out))
    go_wp2_with fail
    refine HC17.out.mono ?_
    rintro _ w17 ⟨E2, hE2, hlE2, vE2, rfl, hOE2, hb17⟩
    obtain ⟨aE2, cE2, rfl⟩ := hOE2.shape
    have NE2 := Lib.hid hE2
    have ZE2 := Lib.hid hlE2
    have A_17 := Lib.hid (A_16.out.below hb17)
    have C_17 := Lib.hid (C_16.out.below hb17)
    have HB_17 := Lib.hid (below_keep HB_16.out hb17)
    have FE2_17 := Lib.hid (hOE2.sl)
    clear hb17 HC17 A_16 C_16 HB_16 hOE2 hE2 hlE2
    have HC18 := Lib.hid (distinct_any _ a 1 w17 A_17.out (mem_left HKA.out) (mem_left HQA.out) (by simp; omega) (sop_small (by simp; omega)) (HT.out.below HB_17.out))
    go_wp2_with fail
    refine HC18.out.mono ?_
    rintro _ w18 ⟨E, hE, hlE, vE, rfl, hOE, hb18⟩
    obtain ⟨aE, cE, rfl⟩ := hOE.shape
    have NE := Lib.hid hE
    have ZE := Lib.hid hlE
    obtain rfl : E2 = E := (HPD.out _ _ _ NE2.out NE.out).symm
    have A_18 := Lib.hid (A_17.out.below hb18)
    have C_18 := Lib.hid (C_17.out.below hb18)
    have FE2_18 := Lib.hid (FE2_17.out.below hb18)
    have HB_18 := Lib.hid (below_keep HB_17.out hb18)
    have FE_18 := Lib.hid (hOE.sl)
    clear hb18 HC18 A_17 C_17 FE2_17 HB_17 hOE hE hlE
    have HC19 := Lib.hid (sameTups_true _ _ E2 w18 FE2_18.out FE_18.out)
    go_wp2_with fail
    refine HC19.out.mono ?_
    rintro _ w19 ⟨rfl, hb19⟩
    have A_19 := Lib.hid (A_18.out.below hb19)
    have C_19 := Lib.hid (C_18.out.below hb19)
    have FE2_19 := Lib.hid (FE2_18.out.below hb19)
    have FE_19 := Lib.hid (FE_18.out.below hb19)
    have HB_19 := Lib.hid (below_keep HB_18.out hb19)
    clear hb19 HC19 A_18 C_18 FE2_18 FE_18 HB_18 
    go_wp2_with fail
    go_ret
    exact ⟨rfl, HB_19.out⟩
  · have h12i : (12 : Int) < (np : Int) := by omega
    have HAW := Lib.hid (awake15_any w HT.out)
    clear hv hok hu hok2 hz hT hnp
    go_enter Tryz.func10, Tryz.ntmps10
    go_wp2_with fail
    refine HAW.out.mono ?_
    rintro _ w2 ⟨rfl, hb2⟩
    have HB2 := Lib.hid hb2
    clear hb2
    go_wp2_with fail
    go_ret
    exact ⟨rfl, HB2.out⟩
end Go.Proofs.YtngigmpaabmngaaGreatDoor

namespace Go.Proofs.YtngigmpaabmngaaGreatDoor
open Go.RowKit Go.Lib

set_option maxHeartbeats 2000000 in
set_option maxRecDepth 100000 in
theorem bagMult_any (v u : Value) (l : List GRow) (vs : List GVal) (w : World) (hv : Sl rowE w free v l) (hu : Sl valE w free u vs) (hl : l.length ≤ 1000000) :
    Calls Tryz.prog 25 #[v, u] w fun e w' => e = .returned (.int .i64 (multL l vs : Nat)) ∧ Below w.heap.size w w' := by
  obtain ⟨a, c, rfl⟩ := hv.shape
  obtain ⟨a2, c2, rfl⟩ := hu.shape
  have h63 := hv.1
  have h64 := hu.1
  have HV := Lib.hid hv
  have HU := Lib.hid hu
  obtain ⟨n, hn⟩ : ∃ n, n = l.length := ⟨_, rfl⟩
  have HN := Lib.hid hn
  obtain ⟨m, hm⟩ : ∃ m, m = vs.length := ⟨_, rfl⟩
  rw [← hn] at HV h63 hl ⊢
  rw [← hm] at HU h64 ⊢
  clear hv hu hn hm
  go_enter Tryz.func25, Tryz.ntmps25
  go_wp2_with fail
  go_loopw [10, 5] (fun i z wr => ∃ k : Nat, k ≤ n ∧ i = .int .i64 k ∧ z = .int .i64 (multL (l.take k) vs : Nat) ∧ Hid (Below w.heap.size w wr)) (fun i _ _ => n - (RowKit.intOf i).toNat)
  case atStart => exact ⟨0, Nat.zero_le _, rfl, rfl, Lib.hid (.refl _ _)⟩
  case round =>
    obtain ⟨k, hk, rfl, rfl, HB⟩ := hrel
    obtain ⟨wo, rfl⟩ : ∃ wo : World, wo = wr := ⟨_, rfl⟩
    by_cases hlt : k < n
    · obtain ⟨x, hx⟩ := lget_some l k (by rw [← HN.out]; exact hlt)
      obtain ⟨b, o, a1, n1, e1, m1, rfl, hvv, hll, p0, p1⟩ := rows_at (HV.out.below HB.out) hx
      have HT0 := multL_snoc hx vs
      have hcl : multL (l.take k) vs ≤ k := Nat.le_trans (multL_le _ _) (by rw [List.length_take]; omega)
      have hba := below_alloc wo (.cells #[.slice a1 x.vals.length n1, .slice e1 x.lin.length m1] 39)
      have HC := Lib.hid (valRows_any _ _ x.vals vs (wo.alloc (.cells #[.slice a1 x.vals.length n1, .slice e1 x.lin.length m1] 39)) (hvv.below hba) ((HU.out.below HB.out).below hba))
      obtain ⟨r, hr⟩ : ∃ r, r = cmpRows x.vals vs := ⟨_, rfl⟩
      rw [← hr] at HC HT0
      have HT := Lib.hid HT0
      obtain ⟨z, hz⟩ : ∃ z, z = multL (l.take k) vs := ⟨_, rfl⟩
      rw [← hz] at HT hcl ⊢
      obtain ⟨xv, xl⟩ := x
      dsimp only at p0 p1 HC HT
      clear hx hvv hll hr hz HT0 hba
      by_cases h0 : r = 0
      · have hrb : (r == 0) = true := by simpa using h0
        have HT' : Hid (multL (l.take (k + 1)) vs = z + 1) := by show _ = _; rw [HT.out, if_pos h0]
        have hzw : IntKind.i64.wrap ((z : Int) + 1) = ((z + 1 : Nat) : Int) := by rw [IntWalk.i64_in _ (by omega)]; omega
        clear h0
        go_wp2_with fail
        refine HC.out.mono ?_
        rintro _ w2 ⟨rfl, hb⟩
        have HB2 := Lib.hid (below_keep (below_alloc_keep HB.out) hb)
        clear hb HC
        go_wp2_with fail
        go_roundw
        case rel => exact ⟨k + 1, by omega, by go_num, by rw [HT'.out]; first | rfl | (rw [hzw]) | simp, HB2⟩
        case measure => simp [RowKit.intOf]; omega
      · have hrb : (r == 0) = false := by simpa using h0
        have HT' : Hid (multL (l.take (k + 1)) vs = z) := by show _ = _; rw [HT.out, if_neg h0]; rfl
        go_wp2_with fail
        refine HC.out.mono ?_
        rintro _ w2 ⟨rfl, hb⟩
        have HB2 := Lib.hid (below_keep (below_alloc_keep HB.out) hb)
        clear hb HC
        go_wp2_with fail
        go_roundw
        case rel => exact ⟨k + 1, by omega, by go_num, by rw [HT'.out], HB2⟩
        case measure => simp [RowKit.intOf]; omega
    · have hkk : l.take k = l := List.take_of_length_le (by rw [← HN.out]; omega)
      rw [hkk]
      clear hkk
      go_wp2_with fail
      go_ret
      exact ⟨rfl, HB.out⟩
end Go.Proofs.YtngigmpaabmngaaGreatDoor

namespace Go.Proofs.YtngigmpaabmngaaGreatDoor
open Go.RowKit Go.Lib

theorem NFS.small {f : Nat → Nat → Nat} (hf : ∀ n, f 0 n = 0) {a b T : List Tup} {q : Nat} (h : NFS f a b T) (hK : ∀ x ∈ a ++ b, Keyable x.row) (hq : ∀ x ∈ a ++ b, x.lin.length ≤ q) (hN : (a.length + b.length) * q ≤ 1000) : ∀ x ∈ T, x.vals.length ≤ 1000 ∧ x.lin.length ≤ 1000 := fun x hx =>
  ⟨(h.keyable hf hK hq hN x hx).nv, (h.keyable hf hK hq hN x hx).nl⟩
set_option maxHeartbeats 8000000 in
set_option maxRecDepth 100000 in
theorem sbal_walk (v u : Value) (xs ys : List U5) (t : Nat) (w : World) (hv : Sl u5E w free v xs) (hok : ∀ x ∈ xs, x.ok) (hu : Sl u5E w free u ys) (hok2 : ∀ x ∈ ys, x.ok) (ht : t < 65536) (hT : Pow w) :
    Calls Tryz.prog 7 #[v, u, .int .u16 (t : Int)] w fun e w' => e = .returned (.bool true) ∧ Below w.heap.size w w' := by
  have HT := Lib.hid hT
  have HTA := Lib.hid (tuples_any v xs 10 (by decide) w hv hok)
  have HTB := Lib.hid (fun W (h : Below w.heap.size w W) => tuples_any u ys 10 (by decide) W (hu.below h) hok2)
  have hla := tupsOf_length xs 10
  have hlb := tupsOf_length ys 10
  have hka := mem_two (tups_keyable xs 10) (tups_keyable ys 10)
  have hqa := mem_two (tups_lin1 xs 10) (tups_lin1 ys 10)
  have hsa := tups_small xs 10
  have hsb := tups_small ys 10
  obtain ⟨a, ha⟩ : ∃ l, l = tupsOf xs 10 := ⟨_, rfl⟩
  obtain ⟨b, hb⟩ : ∃ l, l = tupsOf ys 10 := ⟨_, rfl⟩
  rw [← ha] at HTA hla hka hqa hsa
  rw [← hb] at HTB hlb hka hqa hsb
  have HKA := Lib.hid hka
  have HQA := Lib.hid hqa
  have HSA := Lib.hid hsa
  have HSB := Lib.hid hsb
  obtain ⟨day, hday⟩ : ∃ d : Int, d = (t : Int) % 60 := ⟨_, rfl⟩
  have hd1 : (t : Int) % 60 = day := hday.symm
  have hd2 : 0 ≤ day ∧ day < 60 := by omega
  have hd3 : IntKind.i64.wrap day = day := IntWalk.i64_in _ (by omega)
  have HPl : Hid ((sortR (atDay a day)).length ≤ 10) := Lib.hid (by rw [sortR_length]; exact Nat.le_trans (atDay_len _ _) hla)
  have HQl : Hid ((sortR (atDay b day)).length ≤ 10) := Lib.hid (by rw [sortR_length]; exact Nat.le_trans (atDay_len _ _) hlb)
  have HBD : Hid (∀ D M U, NFS fExc a b D → NFS fInt a b M → IsNF (a ++ b) U → (∀ vs, multL (sortR (atDay D day)) vs + multL (sortR (atDay M day)) vs = multL (sortR (atDay a day)) vs) ∧ (sortR (atDay D day)).length + (sortR (atDay M day)).length = (sortR (atDay a day)).length ∧ (∀ vs, multL (sortR (atDay U day)) vs = multL (sortR (atDay a day)) vs + multL (sortR (atDay b day)) vs) ∧ (sortR (atDay U day)).length = (sortR (atDay a day)).length + (sortR (atDay b day)).length) := Lib.hid (fun D M U h1 h2 h3 => by
    obtain ⟨k1, k2⟩ := nfs_balance h1 h2 day
    obtain ⟨k3, k4⟩ := nfu_day h3 day
    refine ⟨fun vs => ?_, ?_, fun vs => ?_, ?_⟩
    · rw [sort_mult, sort_mult, sort_mult]; exact k1 vs
    · rw [sortR_length, sortR_length, sortR_length]; exact k2
    · rw [sort_mult, sort_mult, sort_mult]; exact k3 vs
    · rw [sortR_length, sortR_length, sortR_length]; exact k4)
  clear hv hok hu hok2 hT ha hb hka hqa hsa hsb hday
  go_enter Tryz.func7, Tryz.ntmps7
  have HC1 := Lib.hid (HTA.out)
  go_wp2_with fail
  refine HC1.out.mono ?_
  rintro _ w1 ⟨vA, rfl, hOA, hb1⟩
  obtain ⟨aA, cA, rfl⟩ := hOA.shape
  have HB_1 := Lib.hid hb1
  have A_1 := Lib.hid (hOA.sl)
  clear hb1 HC1  hOA HTA
  have HC2 := Lib.hid (HTB.out w1 HB_1.out)
  go_wp2_with fail
  refine HC2.out.mono ?_
  rintro _ w2 ⟨vB, rfl, hOB, hb2⟩
  obtain ⟨aB, cB, rfl⟩ := hOB.shape
  have A_2 := Lib.hid (A_1.out.below hb2)
  have HB_2 := Lib.hid (below_keep HB_1.out hb2)
  have B_2 := Lib.hid (hOB.sl)
  clear hb2 HC2 A_1 HB_1 hOB HTB
  have HC3 := Lib.hid (timeslice_any _ a day w2 A_2.out (by omega) HSA.out)
  go_wp2_with fail
  refine HC3.out.mono ?_
  rintro _ w3 ⟨vP, rfl, hOP, hb3⟩
  obtain ⟨aP, cP, rfl⟩ := hOP.shape
  have A_3 := Lib.hid (A_2.out.below hb3)
  have B_3 := Lib.hid (B_2.out.below hb3)
  have HB_3 := Lib.hid (below_keep HB_2.out hb3)
  have P_3 := Lib.hid (hOP.sl)
  clear hb3 HC3 A_2 B_2 HB_2 hOP
  have HC4 := Lib.hid (timeslice_any _ b day w3 B_3.out (by omega) HSB.out)
  go_wp2_with fail
  refine HC4.out.mono ?_
  rintro _ w4 ⟨vQ, rfl, hOQ, hb4⟩
  obtain ⟨aQ, cQ, rfl⟩ := hOQ.shape
  have A_4 := Lib.hid (A_3.out.below hb4)
  have B_4 := Lib.hid (B_3.out.below hb4)
  have P_4 := Lib.hid (P_3.out.below hb4)
  have HB_4 := Lib.hid (below_keep HB_3.out hb4)
  have Q_4 := Lib.hid (hOQ.sl)
  clear hb4 HC4 A_3 B_3 P_3 HB_3 hOQ
  have HC5 := Lib.hid (except_any _ _ a b 1 w4 A_4.out B_4.out HKA.out HQA.out (by omega) (sop_small (by omega)) (HT.out.below HB_4.out))
  go_wp2_with fail
  refine HC5.out.mono ?_
  rintro _ w5 ⟨D, hD, hlD, vD, rfl, hOD, hb5⟩
  obtain ⟨aD, cD, rfl⟩ := hOD.shape
  have ND := Lib.hid hD
  have ZD := Lib.hid hlD
  have A_5 := Lib.hid (A_4.out.below hb5)
  have B_5 := Lib.hid (B_4.out.below hb5)
  have P_5 := Lib.hid (P_4.out.below hb5)
  have Q_5 := Lib.hid (Q_4.out.below hb5)
  have HB_5 := Lib.hid (below_keep HB_4.out hb5)
  have FD_5 := Lib.hid (hOD.sl)
  clear hb5 HC5 A_4 B_4 P_4 Q_4 HB_4 hOD hD hlD
  have HC6 := Lib.hid (timeslice_any _ D day w5 FD_5.out ZD.out (NFS.small (q := 1) fExc_zero ND.out HKA.out HQA.out (by omega)))
  go_wp2_with fail
  refine HC6.out.mono ?_
  rintro _ w6 ⟨vRD, rfl, hORD, hb6⟩
  obtain ⟨aRD, cRD, rfl⟩ := hORD.shape
  have A_6 := Lib.hid (A_5.out.below hb6)
  have B_6 := Lib.hid (B_5.out.below hb6)
  have P_6 := Lib.hid (P_5.out.below hb6)
  have Q_6 := Lib.hid (Q_5.out.below hb6)
  have FD_6 := Lib.hid (FD_5.out.below hb6)
  have HB_6 := Lib.hid (below_keep HB_5.out hb6)
  have RD_6 := Lib.hid (hORD.sl)
  clear hb6 HC6 A_5 B_5 P_5 Q_5 FD_5 HB_5 hORD
  have HC7 := Lib.hid (intersect_any _ _ a b 1 w6 A_6.out B_6.out HKA.out HQA.out (by omega) (sop_small (by omega)) (HT.out.below HB_6.out))
  go_wp2_with fail
  refine HC7.out.mono ?_
  rintro _ w7 ⟨M, hM, hlM, vM, rfl, hOM, hb7⟩
  obtain ⟨aM, cM, rfl⟩ := hOM.shape
  have NM := Lib.hid hM
  have ZM := Lib.hid hlM
  have A_7 := Lib.hid (A_6.out.below hb7)
  have B_7 := Lib.hid (B_6.out.below hb7)
  have P_7 := Lib.hid (P_6.out.below hb7)
  have Q_7 := Lib.hid (Q_6.out.below hb7)
  have RD_7 := Lib.hid (RD_6.out.below hb7)
  have HB_7 := Lib.hid (below_keep HB_6.out hb7)
  have FM_7 := Lib.hid (hOM.sl)
  clear hb7 HC7 A_6 B_6 P_6 Q_6 RD_6 HB_6 hOM hM hlM
  have HC8 := Lib.hid (timeslice_any _ M day w7 FM_7.out ZM.out (NFS.small (q := 1) fInt_zero NM.out HKA.out HQA.out (by omega)))
  go_wp2_with fail
  refine HC8.out.mono ?_
  rintro _ w8 ⟨vRM, rfl, hORM, hb8⟩
  obtain ⟨aRM, cRM, rfl⟩ := hORM.shape
  have A_8 := Lib.hid (A_7.out.below hb8)
  have B_8 := Lib.hid (B_7.out.below hb8)
  have P_8 := Lib.hid (P_7.out.below hb8)
  have Q_8 := Lib.hid (Q_7.out.below hb8)
  have RD_8 := Lib.hid (RD_7.out.below hb8)
  have FM_8 := Lib.hid (FM_7.out.below hb8)
  have HB_8 := Lib.hid (below_keep HB_7.out hb8)
  have RM_8 := Lib.hid (hORM.sl)
  clear hb8 HC8 A_7 B_7 P_7 Q_7 RD_7 FM_7 HB_7 hORM
  have HC9 := Lib.hid (union_any _ _ a b w8 A_8.out B_8.out (by omega) HKA.out (HT.out.below HB_8.out))
  go_wp2_with fail
  refine HC9.out.mono ?_
  rintro _ w9 ⟨U, hU, hlU, vU, rfl, hOU, hb9⟩
  obtain ⟨aU, cU, rfl⟩ := hOU.shape
  have NU := Lib.hid hU
  have ZU := Lib.hid hlU
  have A_9 := Lib.hid (A_8.out.below hb9)
  have B_9 := Lib.hid (B_8.out.below hb9)
  have P_9 := Lib.hid (P_8.out.below hb9)
  have Q_9 := Lib.hid (Q_8.out.below hb9)
  have RD_9 := Lib.hid (RD_8.out.below hb9)
  have RM_9 := Lib.hid (RM_8.out.below hb9)
  have HB_9 := Lib.hid (below_keep HB_8.out hb9)
  have FU_9 := Lib.hid (hOU.sl)
  clear hb9 HC9 A_8 B_8 P_8 Q_8 RD_8 RM_8 HB_8 hOU hU hlU
  have HC10 := Lib.hid (timeslice_any _ U day w9 FU_9.out (by have := ZU.out; omega) (IsNF.small NU.out HKA.out))
  go_wp2_with fail
  refine HC10.out.mono ?_
  rintro _ w10 ⟨vRU, rfl, hORU, hb10⟩
  obtain ⟨aRU, cRU, rfl⟩ := hORU.shape
  have P_10 := Lib.hid (P_9.out.below hb10)
  have Q_10 := Lib.hid (Q_9.out.below hb10)
  have RD_10 := Lib.hid (RD_9.out.below hb10)
  have RM_10 := Lib.hid (RM_9.out.below hb10)
  have FU_10 := Lib.hid (FU_9.out.below hb10)
  have HB_10 := Lib.hid (below_keep HB_9.out hb10)
  have RU_10 := Lib.hid (hORU.sl)
  clear hb10 HC10 P_9 Q_9 RD_9 RM_9 FU_9 HB_9 hORU
  obtain ⟨hM1, hL1, hM2, hL2⟩ := HBD.out D M U ND.out NM.out NU.out
  have hp10 := HPl.out
  have hq10 := HQl.out
  obtain ⟨rp, hrp⟩ : ∃ r, r = sortR (atDay a day) := ⟨_, rfl⟩
  obtain ⟨rq, hrq⟩ : ∃ r, r = sortR (atDay b day) := ⟨_, rfl⟩
  obtain ⟨rd, hrd⟩ : ∃ r, r = sortR (atDay D day) := ⟨_, rfl⟩
  obtain ⟨rm, hrm⟩ : ∃ r, r = sortR (atDay M day) := ⟨_, rfl⟩
  obtain ⟨ru, hru⟩ : ∃ r, r = sortR (atDay U day) := ⟨_, rfl⟩
  rw [← hrp] at P_10 hM1 hL1 hM2 hL2 hp10 ⊢
  rw [← hrq] at Q_10 hM2 hL2 hq10 ⊢
  rw [← hrd] at RD_10 hM1 hL1 ⊢
  rw [← hrm] at RM_10 hM1 hL1 ⊢
  rw [← hru] at RU_10 hM2 hL2 ⊢
  have HM1 := Lib.hid hM1
  have HM2 := Lib.hid hM2
  clear hrp hrq hrd hrm hru hM1 hM2 HBD HPl HQl ND NM NU ZD ZM ZU
  obtain ⟨np, hnp⟩ : ∃ n, n = rp.length := ⟨_, rfl⟩
  obtain ⟨nq, hnq⟩ : ∃ n, n = rq.length := ⟨_, rfl⟩
  obtain ⟨nd, hnd⟩ : ∃ n, n = rd.length := ⟨_, rfl⟩
  obtain ⟨nm, hnm⟩ : ∃ n, n = rm.length := ⟨_, rfl⟩
  obtain ⟨nu, hnu⟩ : ∃ n, n = ru.length := ⟨_, rfl⟩
  have LP := Lib.hid hnp
  have LQ := Lib.hid hnq
  have LD := Lib.hid hnd
  have LM := Lib.hid hnm
  have LU := Lib.hid hnu
  rw [← hnp] at P_10 hL1 hL2 hp10 ⊢
  rw [← hnq] at Q_10 hL2 hq10 ⊢
  rw [← hnd] at RD_10 hL1 ⊢
  rw [← hnm] at RM_10 hL1 ⊢
  rw [← hnu] at RU_10 hL2 ⊢
  have hnd10 : nd ≤ 10 := by omega
  have hnm10 : nm ≤ 10 := by omega
  have hnu20 : nu ≤ 20 := by omega
  have HL1 := Lib.hid hL1
  have HL2 := Lib.hid hL2
  clear hnp hnq hnd hnm hnu hL1 hL2
  go_wp2_with fail
  go_loopw [47] (fun i wr => ∃ k : Nat, k ≤ nu ∧ i = .int .i64 k ∧ Hid (Below w10.heap.size w10 wr)) (fun i _ => nu - (RowKit.intOf i).toNat)
  case atStart => exact ⟨0, Nat.zero_le _, rfl, Lib.hid (.refl _ _)⟩
  case round =>
    obtain ⟨k, hk, rfl, HB⟩ := hrel
    obtain ⟨wo, rfl⟩ : ∃ wo : World, wo = wr := ⟨_, rfl⟩
    by_cases hlt : k < nu
    · obtain ⟨x, hx⟩ := lget_some ru k (by rw [← LU.out]; exact hlt)
      obtain ⟨b0, o0, a1, n1, e1, m1, rfl, hvv, hll, p0, p1⟩ := rows_at (RU_10.out.below HB.out) hx
      have hba := below_alloc wo (.cells #[.slice a1 x.vals.length n1, .slice e1 x.lin.length m1] 39)
      have hgx := World.alloc_heap_new wo (.cells #[.slice a1 x.vals.length n1, .slice e1 x.lin.length m1] 39)
      obtain ⟨w20, hw5⟩ : ∃ w20, w20 = wo.alloc (.cells #[.slice a1 x.vals.length n1, .slice e1 x.lin.length m1] 39) := ⟨_, rfl⟩
      rw [← hw5] at hba hgx
      obtain ⟨d0, d1, _, _⟩ := box_two hgx
      have CMD := fun W (h : Below w20.heap.size w20 W) => Lib.hid (bagMult_any _ _ rd x.vals W (((RD_10.out.below HB.out).below hba).below h) ((hvv.below hba).below h) (by have := LD.out; omega))
      have CMM := fun W (h : Below w20.heap.size w20 W) => Lib.hid (bagMult_any _ _ rm x.vals W (((RM_10.out.below HB.out).below hba).below h) ((hvv.below hba).below h) (by have := LM.out; omega))
      have CMP := fun W (h : Below w20.heap.size w20 W) => Lib.hid (bagMult_any _ _ rp x.vals W (((P_10.out.below HB.out).below hba).below h) ((hvv.below hba).below h) (by have := LP.out; omega))
      have CMQ := fun W (h : Below w20.heap.size w20 W) => Lib.hid (bagMult_any _ _ rq x.vals W (((Q_10.out.below HB.out).below hba).below h) ((hvv.below hba).below h) (by have := LQ.out; omega))
      have CMU := fun W (h : Below w20.heap.size w20 W) => Lib.hid (bagMult_any (.slice (some ⟨b0, o0, none⟩) nu cRU) _ ru x.vals W (((RU_10.out.below HB.out).below hba).below h) ((hvv.below hba).below h) (by have := LU.out; omega))
      have hm1 := HM1.out x.vals
      have hm2 := HM2.out x.vals
      have hz1 := Nat.le_trans (multL_le rp x.vals) (by have := LP.out; omega : rp.length ≤ 10)
      have hz2 := Nat.le_trans (multL_le rq x.vals) (by have := LQ.out; omega : rq.length ≤ 10)
      obtain ⟨z1, hz1e⟩ : ∃ z, z = multL rd x.vals := ⟨_, rfl⟩
      obtain ⟨z2, hz2e⟩ : ∃ z, z = multL rm x.vals := ⟨_, rfl⟩
      obtain ⟨z3, hz3e⟩ : ∃ z, z = multL rp x.vals := ⟨_, rfl⟩
      obtain ⟨z4, hz4e⟩ : ∃ z, z = multL rq x.vals := ⟨_, rfl⟩
      obtain ⟨z5, hz5e⟩ : ∃ z, z = multL ru x.vals := ⟨_, rfl⟩
      rw [← hz1e] at CMD hm1
      rw [← hz2e] at CMM hm1
      rw [← hz3e] at CMP hm1 hm2 hz1
      rw [← hz4e] at CMQ hm2 hz2
      rw [← hz5e] at CMU hm2
      have e3 : ((z3 : Nat) : Int) = (z1 : Int) + (z2 : Int) := by omega
      have e5 : ((z5 : Nat) : Int) = (z1 : Int) + (z2 : Int) + (z4 : Int) := by omega
      rw [e3] at CMP
      rw [e5] at CMU
      have CMD' := Lib.hid CMD
      have CMM' := Lib.hid CMM
      have CMP' := Lib.hid CMP
      have CMQ' := Lib.hid CMQ
      have CMU' := Lib.hid CMU
      have hw1 : IntKind.i64.wrap ((z1 : Int) + (z2 : Int)) = (z1 : Int) + (z2 : Int) := IntWalk.i64_in _ (by omega)
      have hw2 : IntKind.i64.wrap ((z1 : Int) + (z2 : Int) + (z4 : Int)) = (z1 : Int) + (z2 : Int) + (z4 : Int) := IntWalk.i64_in _ (by omega)
      have hzz : ((z1 : Int) + (z2 : Int) != (z1 : Int) + (z2 : Int)) = false := by simp
      have hzz2 : ((z1 : Int) + (z2 : Int) + (z4 : Int) != (z1 : Int) + (z2 : Int) + (z4 : Int)) = false := by simp
      have HB20 := Lib.hid (below_keep HB.out hba)
      have HW20 := Lib.hid hw5
      rw [hw5] at d0 d1
      generalize x.vals.length = nx at d0 d1 p0 p1 CMD' CMM' CMP' CMQ' CMU' HW20 ⊢
      generalize x.lin.length = ny at d0 d1 p0 p1 HW20 ⊢
      clear hx hvv hll hba hgx hw5 CMD CMM CMP CMQ CMU hz1e hz2e hz3e hz4e hz5e e3 e5 hm1 hm2
      go_upto_region 8 with fail
      rw [← HW20.out] at d0 d1 ⊢
      have hbb : Below w20.heap.size w20 w20 := .refl _ _
      go_region_held3 (fun W => Below w20.heap.size w20 W ∧ W.cell? ⟨wo.heap.size, 0, none⟩ = some (.slice a1 nx n1))
        ((go_split_ands; refine ⟨?_, ?_⟩ <;> (first | with_reducible assumption | with_reducible exact Below.drew (by assumption) | with_reducible exact cell_drew (by assumption) | with_reducible exact below_keep (by assumption) (by assumption) | with_reducible exact cell_keep (by assumption) (by assumption))))
        (first
          | (go_at_call 25; go_split_ands; with_reducible refine (CMD'.out _ (by first | assumption | exact Below.drew (by assumption))).out.mono ?_; rintro e' wK ⟨rfl, hbK⟩)
          | (go_at_call 25; go_split_ands; with_reducible refine (CMM'.out _ (by first | assumption | exact Below.drew (by assumption))).out.mono ?_; rintro e' wK ⟨rfl, hbK⟩)
          | (go_at_call 25; go_split_ands; with_reducible refine (CMP'.out _ (by first | assumption | exact Below.drew (by assumption))).out.mono ?_; rintro e' wK ⟨rfl, hbK⟩)
          | (go_at_call 25; go_split_ands; with_reducible refine (CMQ'.out _ (by first | assumption | exact Below.drew (by assumption))).out.mono ?_; rintro e' wK ⟨rfl, hbK⟩)
          | (go_at_call 25; go_split_ands; with_reducible refine (CMU'.out _ (by first | assumption | exact Below.drew (by assumption))).out.mono ?_; rintro e' wK ⟨rfl, hbK⟩))
      all_goals (
        go_split_ands
        go_wp2_with fail
        go_roundw
        case rel => exact ⟨k + 1, by omega, by go_num, Lib.hid (below_keep HB20.out (by assumption))⟩
        case measure => simp [RowKit.intOf]; omega)
    · have hq1 : ((nu : Int) == (np : Int) + (nq : Int)) = true := by rw [beq_iff_eq]; have := HL2.out; omega
      have hq2 : ((nd : Int) + (nm : Int) == (np : Int)) = true := by rw [beq_iff_eq]; have := HL1.out; omega
      have HBE := Lib.hid (below_keep HB_10.out HB.out)
      have HAW := Lib.hid (awake15_any wo (HT.out.below HBE.out))
      go_wp2_with fail
      refine HAW.out.mono ?_
      rintro _ w6 ⟨rfl, hb6⟩
      have HB6 := Lib.hid (below_keep HBE.out hb6)
      clear hb6
      go_wp2_with fail
      go_ret
      exact ⟨rfl, HB6.out⟩
end Go.Proofs.YtngigmpaabmngaaGreatDoor

namespace Go.Proofs.YtngigmpaabmngaaGreatDoor
open Go.RowKit Go.Lib

theorem loL_asc (y : List GRow) (vs : List GVal) : (loL y vs).Pairwise (· < ·) := by
  have key : ∀ (l : List GRow) (a : List Int), a.Pairwise (· < ·) → (l.foldl (fun a r => mergeL a r.lin) a).Pairwise (· < ·) := by
    intro l
    induction l with
    | nil => intro a h; exact h
    | cons r l ih => intro a _; exact ih _ (mergeL_asc _ _)
  exact key _ _ .nil
theorem loL_len {y : List GRow} {q : Nat} (h : ∀ r ∈ y, r.lin.length ≤ q) (vs : List GVal) : (loL y vs).length ≤ y.length * q := by
  have key : ∀ (l : List GRow) (a : List Int), (∀ r ∈ l, r.lin.length ≤ q) → (l.foldl (fun a r => mergeL a r.lin) a).length ≤ a.length + l.length * q := by
    intro l
    induction l with
    | nil => intro a _; simp
    | cons r l ih =>
      intro a h
      have h1 := ih (mergeL a r.lin) fun z hz => h z (List.mem_cons_of_mem _ hz)
      have h2 := mergeL_length a r.lin
      have h3 := h r (List.mem_cons_self ..)
      rw [List.foldl_cons, List.length_cons, Nat.add_mul, Nat.one_mul]
      omega
  have h1 := key (y.filter fun r => decide (cmpRows r.vals vs = 0)) [] fun r hr => h r (List.mem_filter.1 hr).1
  have h2 : (y.filter fun r => decide (cmpRows r.vals vs = 0)).length ≤ y.length := List.length_filter_le _ _
  refine Nat.le_trans h1 ?_
  rw [List.length_nil, Nat.zero_add]
  exact Nat.mul_le_mul_right _ h2
theorem once_rows {a T : List Tup} (h : NFS fDis a [] T) (t : Int) (hp : ∀ x ∈ a, x.lin ≠ []) : (∀ r ∈ sortR (atDay T t), multL (sortR (atDay T t)) r.vals = 1 ∧ loL (sortR (atDay a t)) r.vals = r.lin ∧ r.lin ≠ []) ∧ ∀ s ∈ sortR (atDay a t), multL (sortR (atDay T t)) s.vals = 1 := by
  obtain ⟨h1, h2⟩ := nfs_once h t
  refine ⟨fun r hr => ?_, fun s hs => by rw [sort_mult]; exact h2 s ((sortR_perm _).mem_iff.1 hs)⟩
  obtain ⟨k1, k2, k3, k4⟩ := h1 r ((sortR_perm _).mem_iff.1 hr)
  refine ⟨by rw [sort_mult]; exact k1, asc_unique (loL_asc _ _) k2 fun x => by rw [loL_mem, sort_lins]; exact (k3 x).symm, fun e => ?_⟩
  obtain ⟨z, hz, hzv⟩ := multL_mem k4
  obtain ⟨y, hy, rfl, _⟩ := mem_atDay.1 hz
  have hne := hp y hy
  cases hl : y.lin with
  | nil => exact hne hl
  | cons i l =>
    have : i ∈ r.lin := (k3 i).2 (List.mem_flatMap.2 ⟨y.row, List.mem_filter.2 ⟨hz, by simpa using (cmpRows_zero _ _).2 hzv⟩, by show i ∈ y.lin; rw [hl]; exact List.mem_cons_self ..⟩)
    rw [e] at this
    cases this
theorem tups_lin_pos (l : List U5) (m : Nat) : ∀ x ∈ tupsOf l m, x.lin ≠ [] := by
  intro x hx
  obtain ⟨u, _, rfl⟩ := List.mem_map.1 hx
  intro e
  cases e
set_option maxHeartbeats 8000000 in
set_option maxRecDepth 100000 in
theorem sonce_walk (v : Value) (xs : List U5) (t : Nat) (w : World) (hv : Sl u5E w free v xs) (hok : ∀ x ∈ xs, x.ok) (ht : t < 65536) (hT : Pow w) :
    Calls Tryz.prog 8 #[v, .int .u16 (t : Int)] w fun e w' => e = .returned (.bool true) ∧ Below w.heap.size w w' := by
  have HT := Lib.hid hT
  have HTA := Lib.hid (tuples_any v xs 12 (by decide) w hv hok)
  have hla := tupsOf_length xs 12
  have hka := tups_keyable xs 12
  have hqa := tups_lin1 xs 12
  have hsa := tups_small xs 12
  have hpa := tups_lin_pos xs 12
  obtain ⟨a, ha⟩ : ∃ l, l = tupsOf xs 12 := ⟨_, rfl⟩
  rw [← ha] at HTA hla hka hqa hsa hpa
  have HKA : Hid (∀ x ∈ a ++ [], Keyable x.row) := Lib.hid (by rw [List.append_nil]; exact hka)
  have HQA : Hid (∀ x ∈ a ++ [], x.lin.length ≤ 1) := Lib.hid (by rw [List.append_nil]; exact hqa)
  have HKB := Lib.hid hka
  have HQB := Lib.hid hqa
  have HSA := Lib.hid hsa
  have HPA := Lib.hid hpa
  obtain ⟨day, hday⟩ : ∃ d : Int, d = (t : Int) % 60 := ⟨_, rfl⟩
  have hd1 : (t : Int) % 60 = day := hday.symm
  have hd2 : 0 ≤ day ∧ day < 60 := by omega
  have hd3 : IntKind.i64.wrap day = day := IntWalk.i64_in _ (by omega)
  have HPl : Hid ((sortR (atDay a day)).length ≤ 12) := Lib.hid (by rw [sortR_length]; exact Nat.le_trans (atDay_len _ _) hla)
  have HPs : Hid (∀ r ∈ sortR (atDay a day), r.lin.length ≤ 1000) := Lib.hid (fun r hr => (atDay_small hsa day r ((sortR_perm _).mem_iff.1 hr)).2)
  clear hv hok hT ha hka hqa hsa hpa hday
  go_enter Tryz.func8, Tryz.ntmps8
  have HC1 := Lib.hid (HTA.out)
  go_wp2_with fail
  refine HC1.out.mono ?_
  rintro _ w1 ⟨vA, rfl, hOA, hb1⟩
  obtain ⟨aA, cA, rfl⟩ := hOA.shape
  have HB_1 := Lib.hid hb1
  have A_1 := Lib.hid (hOA.sl)
  clear hb1 HC1  hOA HTA
  have HC2 := Lib.hid (timeslice_any _ a day w1 A_1.out (by omega) HSA.out)
  go_wp2_with fail
  refine HC2.out.mono ?_
  rintro _ w2 ⟨vP, rfl, hOP, hb2⟩
  obtain ⟨aP, cP, rfl⟩ := hOP.shape
  have A_2 := Lib.hid (A_1.out.below hb2)
  have HB_2 := Lib.hid (below_keep HB_1.out hb2)
  have P_2 := Lib.hid (hOP.sl)
  clear hb2 HC2 A_1 HB_1 hOP
  have HC3 := Lib.hid (distinct_any _ a 1 w2 A_2.out HKB.out HQB.out (by simp; omega) (sop_small (by simp; omega)) (HT.out.below HB_2.out))
  go_wp2_with fail
  refine HC3.out.mono ?_
  rintro _ w3 ⟨D, hD, hlD, vD, rfl, hOD, hb3⟩
  obtain ⟨aD, cD, rfl⟩ := hOD.shape
  have ND := Lib.hid hD
  have ZD := Lib.hid hlD
  have A_3 := Lib.hid (A_2.out.below hb3)
  have P_3 := Lib.hid (P_2.out.below hb3)
  have HB_3 := Lib.hid (below_keep HB_2.out hb3)
  have FD_3 := Lib.hid (hOD.sl)
  clear hb3 HC3 A_2 P_2 HB_2 hOD hD hlD
  have HC4 := Lib.hid (timeslice_any _ D day w3 FD_3.out ZD.out (NFS.small (q := 1) fDis_zero ND.out HKA.out HQA.out (by simp; omega)))
  go_wp2_with fail
  refine HC4.out.mono ?_
  rintro _ w4 ⟨vR, rfl, hOR, hb4⟩
  obtain ⟨aR, cR, rfl⟩ := hOR.shape
  have P_4 := Lib.hid (P_3.out.below hb4)
  have FD_4 := Lib.hid (FD_3.out.below hb4)
  have HB_4 := Lib.hid (below_keep HB_3.out hb4)
  have R_4 := Lib.hid (hOR.sl)
  clear hb4 HC4 P_3 FD_3 HB_3 hOR
  obtain ⟨hM1, hM2⟩ := once_rows ND.out day HPA.out
  have hrl : (sortR (atDay D day)).length ≤ 100000 := by rw [sortR_length]; exact Nat.le_trans (atDay_len _ _) ZD.out
  have hrs : ∀ r ∈ sortR (atDay D day), r.lin.length ≤ 1000 := fun r hr => (atDay_small (NFS.small (q := 1) fDis_zero ND.out HKA.out HQA.out (by simp; omega)) day r ((sortR_perm _).mem_iff.1 hr)).2
  have hp12 := HPl.out
  have hps := HPs.out
  obtain ⟨rp, hrp⟩ : ∃ r, r = sortR (atDay a day) := ⟨_, rfl⟩
  obtain ⟨rd, hrd⟩ : ∃ r, r = sortR (atDay D day) := ⟨_, rfl⟩
  rw [← hrp] at P_4 hM1 hM2 hp12 hps ⊢
  rw [← hrd] at R_4 hM1 hM2 hrl hrs ⊢
  have HM1 := Lib.hid hM1
  have HM2 := Lib.hid hM2
  have HPS := Lib.hid hps
  have HRS := Lib.hid hrs
  clear hrp hrd hM1 hM2 hps hrs HPl HPs ND ZD
  obtain ⟨np, hnp⟩ : ∃ n, n = rp.length := ⟨_, rfl⟩
  obtain ⟨nd, hnd⟩ : ∃ n, n = rd.length := ⟨_, rfl⟩
  have LP := Lib.hid hnp
  have LD := Lib.hid hnd
  rw [← hnp] at P_4 hp12 ⊢
  rw [← hnd] at R_4 hrl ⊢
  clear hnp hnd
  go_wp2_with fail
  go_loopw [30] (fun i wr => ∃ k : Nat, k ≤ nd ∧ i = .int .i64 k ∧ Hid (Below w4.heap.size w4 wr)) (fun i _ => nd - (RowKit.intOf i).toNat)
  case atStart => exact ⟨0, Nat.zero_le _, rfl, Lib.hid (.refl _ _)⟩
  case round =>
    obtain ⟨k, hk, rfl, HB⟩ := hrel
    obtain ⟨wo, rfl⟩ : ∃ wo : World, wo = wr := ⟨_, rfl⟩
    by_cases hlt : k < nd
    · obtain ⟨x, hx⟩ := lget_some rd k (by rw [← LD.out]; exact hlt)
      obtain ⟨hx1, hx2, hx3⟩ := HM1.out x (List.mem_of_getElem? hx)
      have hxl := HRS.out x (List.mem_of_getElem? hx)
      obtain ⟨b0, o0, a1, n1, e1, m1, rfl, hvv, hll, p0, p1⟩ := rows_at (R_4.out.below HB.out) hx
      have hba := below_alloc wo (.cells #[.slice a1 x.vals.length n1, .slice e1 x.lin.length m1] 39)
      have hgx := World.alloc_heap_new wo (.cells #[.slice a1 x.vals.length n1, .slice e1 x.lin.length m1] 39)
      obtain ⟨xv, xl⟩ := x
      dsimp only at hx1 hx2 hx3 hxl hvv hll p0 p1 hba hgx
      have HVV := Lib.hid (hvv.below hba)
      have HLL := Lib.hid (hll.below hba)
      have HGX := Lib.hid hgx
      have HB1 := Lib.hid (below_keep HB.out hba)
      have HX1 := Lib.hid hx1
      have HX2 := Lib.hid hx2
      have hxp : 0 < xl.length := List.length_pos_iff.2 hx3
      have HPB := Lib.hid ((P_4.out.below HB.out).below hba)
      have HRB := Lib.hid ((R_4.out.below HB.out).below hba)
      clear hx hx1 hx2 hx3 hvv hll hba hgx
      go_upto_block 2 with fail
      obtain ⟨wb, hwb⟩ : ∃ wb, wb = wo.alloc (.cells #[.slice a1 xv.length n1, .slice e1 xl.length m1] 39) := ⟨_, rfl⟩
      rw [← hwb] at HVV HLL HGX HB1 HPB HRB ⊢
      clear hwb
      have hll2 : xl.length ≤ 1000 := hxl
      have HX3 : Hid (0 < xl.length) := Lib.hid hxp
      generalize hnx : xv.length = nx at HVV HGX
      generalize hny : xl.length = ny at HLL HGX hxp hll2
      have HNY := Lib.hid hny
      clear hnx hny p0 p1
      go_wp2_with fail
      go_loopw [36, 11] (fun i o wr => ∃ j : Nat, j ≤ np ∧ i = .int .i64 j ∧ Own intE wr wb.heap.size o (loL (rp.take j) xv) ∧ Hid (Below wb.heap.size wb wr)) (fun i _ _ => np - (RowKit.intOf i).toNat)
      case atStart => exact ⟨0, Nat.zero_le _, rfl, Own.nil _ _ _, Lib.hid (.refl _ _)⟩
      case round =>
        obtain ⟨j, hj, rfl, hOj, HBj⟩ := hrel
        obtain ⟨wq, rfl⟩ : ∃ wq : World, wq = wr := ⟨_, rfl⟩
        have hlo : (loL (rp.take j) xv).length ≤ 12000 := Nat.le_trans (loL_len (fun r hr => HPS.out r (List.mem_of_mem_take hr)) xv) (Nat.mul_le_mul_right 1000 (by rw [List.length_take]; omega : (rp.take j).length ≤ 12))
        by_cases hlt2 : j < np
        · obtain ⟨y, hy⟩ := lget_some rp j (by rw [← LP.out]; exact hlt2)
          have hyl := HPS.out y (List.mem_of_getElem? hy)
          obtain ⟨b2, o2, a2, n2, e2, m2, rfl, hv2, hl2, q0, q1⟩ := rows_at (HPB.out.below HBj.out) hy
          have HSN : Hid (loL (rp.take (j + 1)) xv = if cmpRows y.vals xv = 0 then mergeL (loL (rp.take j) xv) y.lin else loL (rp.take j) xv) := Lib.hid (loL_snoc hy xv)
          obtain ⟨yv, yl⟩ := y
          dsimp only at hyl hv2 hl2 q0 q1 HSN
          have hba2 := below_alloc wq (.cells #[.slice a2 yv.length n2, .slice e2 yl.length m2] 39)
          have HG2 := Lib.hid (World.alloc_heap_new wq (.cells #[.slice a2 yv.length n2, .slice e2 yl.length m2] 39))
          have hbB := below_keep HBj.out hba2
          have HCR := Lib.hid (cmpRows_any (.slice a2 yv.length n2) (.slice a1 nx n1) yv xv (wq.alloc (.cells #[.slice a2 yv.length n2, .slice e2 yl.length m2] 39)) (hv2.below hba2).vals (HVV.out.below hbB).vals)
          obtain ⟨d0, d1, _, _⟩ := box_two (box_kept HGX.out hbB)
          have HBB := Lib.hid hbB
          have HL2 := Lib.hid (hl2.below hba2)
          obtain ⟨lo, hloe⟩ : ∃ lo, lo = loL (rp.take j) xv := ⟨_, rfl⟩
          rw [← hloe] at hOj hlo HSN
          obtain ⟨ao, co, rfl⟩ := hOj.shape
          have HOA := Lib.hid (hOj.below hba2)
          obtain ⟨r, hr⟩ : ∃ r, r = cmpRows yv xv := ⟨_, rfl⟩
          rw [← hr] at HCR HSN
          clear hy hv2 hl2 hba2 hbB hloe hOj hr
          by_cases h0 : r = 0
          · have hrb : (r == 0) = true := by simpa using h0
            have HSN' : Hid (loL (rp.take (j + 1)) xv = mergeL lo yl) := Lib.hid (by rw [HSN.out, if_pos h0])
            go_wp2_with fail
            refine HCR.out.mono ?_
            rintro _ w21 ⟨rfl, hb21⟩
            obtain ⟨e0, e1', _, _⟩ := box_two (box_kept HG2.out hb21)
            have HO21 := Lib.hid (HOA.out.below hb21)
            have HL21 := Lib.hid (HL2.out.below hb21)
            have HBM := Lib.hid (below_keep HBB.out hb21)
            have HMG := Lib.hid (bagMerge_any _ _ lo yl w21 HO21.out.sl HL21.out (by omega))
            clear hb21 HCR HOA HL2 d0 d1
            go_wp2_with fail
            refine HMG.out.mono ?_
            rintro _ w22 ⟨vM, rfl, hOM, hb22⟩
            obtain ⟨aM, cM, rfl⟩ := hOM.shape
            have HOM : Hid (Own intE w22 wb.heap.size (.slice aM (mergeL lo yl).length cM) (mergeL lo yl)) := Lib.hid (hOM.mono HBM.out.size)
            have HB22 := Lib.hid (below_keep HBM.out hb22)
            clear hOM hb22 HMG e0 e1'
            generalize (mergeL lo yl).length = nM at HOM ⊢
            go_wp2_with fail
            go_roundw
            case rel => exact ⟨j + 1, by omega, by go_num, by rw [HSN'.out]; exact HOM.out, HB22⟩
            case measure => simp [RowKit.intOf]; omega
          · have hrb : (r == 0) = false := by simpa using h0
            have HSN' : Hid (loL (rp.take (j + 1)) xv = lo) := Lib.hid (by rw [HSN.out, if_neg h0])
            go_wp2_with fail
            refine HCR.out.mono ?_
            rintro _ w21 ⟨rfl, hb21⟩
            have HO21 := Lib.hid (HOA.out.below hb21)
            have HBM := Lib.hid (below_keep HBB.out hb21)
            clear hb21 HCR HOA HL2 d0 d1
            go_wp2_with fail
            go_roundw
            case rel => exact ⟨j + 1, by omega, by go_num, by rw [HSN'.out]; exact HO21.out, HBM⟩
            case measure => simp [RowKit.intOf]; omega
        · obtain rfl : j = np := by omega
          have hall : loL (rp.take j) xv = xl := by rw [List.take_of_length_le (by rw [← LP.out]; exact Nat.le_refl _)]; exact HX2.out
          rw [hall] at hOj hlo
          obtain ⟨ao, co, rfl⟩ := hOj.shape
          rw [HNY.out] at hOj ⊢
          obtain ⟨d0, d1, _, _⟩ := box_two (box_kept HGX.out HBj.out)
          have HMU := Lib.hid (bagMult_any _ (.slice a1 nx n1) rd xv wq (HRB.out.below HBj.out) (HVV.out.below HBj.out) (by rw [← LD.out]; omega))
          rw [HX1.out] at HMU
          have HOJ := Lib.hid hOj
          have HLJ := Lib.hid (HLL.out.below HBj.out)
          clear hOj hall hlo
          go_wp2_with fail
          refine HMU.out.mono ?_
          rintro _ w21 ⟨rfl, hb21⟩
          have HCI0 := Lib.hid (cmpInts_any (.slice ao ny co) (.slice e1 ny m1) xl xl w21 (HOJ.out.sl.below hb21).ints (HLJ.out.below hb21).ints)
          have HCI : Hid (Calls Tryz.prog 28 #[.slice ao ny co, .slice e1 ny m1] w21 fun e w' => e = .returned (.int .i64 0) ∧ Below w21.heap.size w21 w') := by
            have := HCI0.out
            rw [cmpInts_refl] at this
            exact Lib.hid this
          obtain ⟨d0', d1', _, _⟩ := box_two (box_kept (box_kept HGX.out HBj.out) hb21)
          have HB21 := Lib.hid (below_keep HBj.out hb21)
          have hy0 : ¬ ny = 0 := by omega
          have hyz : ((ny : Int) == 0) = false := by rw [beq_eq_false_iff_ne]; omega
          clear hb21 HMU d0 d1 HCI0
          go_wp2_with fail
          refine HCI.out.mono ?_
          rintro _ w22 ⟨rfl, hb22⟩
          have HB22 := Lib.hid (below_keep HB1.out (below_keep HB21.out hb22))
          clear hb22 HCI d0' d1'
          go_wp2_with fail
          go_roundw
          case rel => exact ⟨k + 1, by omega, by go_num, HB22⟩
          case measure => simp [RowKit.intOf]; omega
    · have HPB := Lib.hid (P_4.out.below HB.out)
      have HRB := Lib.hid (R_4.out.below HB.out)
      have HBo := Lib.hid (below_keep HB_4.out HB.out)
      go_wp2_with fail
      go_loopw [71] (fun i wr => ∃ j : Nat, j ≤ np ∧ i = .int .i64 j ∧ Hid (Below wo.heap.size wo wr)) (fun i _ => np - (RowKit.intOf i).toNat)
      case atStart => exact ⟨0, Nat.zero_le _, rfl, Lib.hid (.refl _ _)⟩
      case round =>
        obtain ⟨j, hj, rfl, HBj⟩ := hrel
        obtain ⟨wq, rfl⟩ : ∃ wq : World, wq = wr := ⟨_, rfl⟩
        by_cases hlt2 : j < np
        · obtain ⟨y, hy⟩ := lget_some rp j (by rw [← LP.out]; exact hlt2)
          have hy2 := HM2.out y (List.mem_of_getElem? hy)
          obtain ⟨b2, o2, a2, n2, e2, m2, rfl, hv2, hl2, q0, q1⟩ := rows_at (HPB.out.below HBj.out) hy
          have hba2 := below_alloc wq (.cells #[.slice a2 y.vals.length n2, .slice e2 y.lin.length m2] 39)
          have HMU := Lib.hid (bagMult_any (.slice aR nd cR) (.slice a2 y.vals.length n2) rd y.vals (wq.alloc (.cells #[.slice a2 y.vals.length n2, .slice e2 y.lin.length m2] 39)) ((HRB.out.below HBj.out).below hba2) (hv2.below hba2) (by rw [← LD.out]; omega))
          rw [hy2] at HMU
          have HBB := Lib.hid (below_keep HBj.out hba2)
          generalize y.vals.length = nx at HMU HBB q0 ⊢
          generalize y.lin.length = ny at HMU HBB q1 ⊢
          clear hy hy2 hv2 hl2 hba2
          go_wp2_with fail
          refine HMU.out.mono ?_
          rintro _ w21 ⟨rfl, hb21⟩
          have HB21 := Lib.hid (below_keep HBB.out hb21)
          clear hb21 HMU
          go_wp2_with fail
          go_roundw
          case rel => exact ⟨j + 1, by omega, by go_num, HB21⟩
          case measure => simp [RowKit.intOf]; omega
        · have HBE := Lib.hid (below_keep HBo.out HBj.out)
          have HAW := Lib.hid (awake15_any wq (HT.out.below HBE.out))
          go_wp2_with fail
          refine HAW.out.mono ?_
          rintro _ w6 ⟨rfl, hb6⟩
          have HB6 := Lib.hid (below_keep HBE.out hb6)
          clear hb6
          go_wp2_with fail
          go_ret
          exact ⟨rfl, HB6.out⟩
end Go.Proofs.YtngigmpaabmngaaGreatDoor

namespace Go.Proofs.YtngigmpaabmngaaGreatDoor
open Go.ChangeShapes Go.WideShapes Go.ChangeAt Go.RowKit

theorem own : ownKnob Tryz.prog.godebug = none := by kernel_rfl
theorem laidOut : laidOutB Tryz.prog = true := by kernel_rfl

theorem trodAll_below {H : Type} {enc : TypeId × Value → H} {W W' : World} (hb : Below W.heap.size W W') : ∀ (ts : List TypeId) (vs : List Value) (ds : List (DataW H)) (ps : List MemPlace),
    (∀ t ∈ ts, Tryz.prog.readableRec t = true ∧ t < Tryz.prog.types.size) → DataW.TrodAll enc Tryz.prog W 0 (fun _ => true) true ts vs ds ps → (∀ x ∈ ps, x.block < W.heap.size) →
    DataW.TrodAll enc Tryz.prog W' 0 (fun b => decide (b < W.heap.size)) true ts vs ds ps := by
  intro ts
  induction ts with
  | nil =>
    intro vs ds ps _ h _
    cases vs <;> cases ds <;> simp [DataW.TrodAll] at h ⊢
    exact h
  | cons t ts ih =>
    intro vs ds ps hr h hlt
    cases vs with
    | nil => simp [DataW.TrodAll] at h
    | cons v vs =>
      cases ds with
      | nil => simp [DataW.TrodAll] at h
      | cons d ds =>
        obtain ⟨p, q, h1, h2, rfl⟩ := h
        have ht := hr t (List.mem_cons_self ..)
        exact ⟨p, q, Below.trod laidOut ht.1 ht.2 h1 hb (fun x hx => hlt x (List.mem_append_left _ hx)), ih vs ds q (fun t' h' => hr t' (List.mem_cons_of_mem _ h')) h2 (fun x hx => hlt x (List.mem_append_right _ hx)), rfl⟩

/-- The post of a law's row. -/
theorem law_post {H : Type} {enc : TypeId × Value → H} {f : Func} {s : ChangeSpec} {W W' : World} {args : Array Value} {ds gs : List (DataW H)} {before : List MemPlace}
    (hvars : s.vars = []) (hres : f.resultTypes = #[4]) (hr : ∀ t ∈ f.params.toList, Tryz.prog.readableRec t = true ∧ t < Tryz.prog.types.size)
    (hs : s.fn H (ds ++ gs) = { results := [.lit (.bool true)], args := ds })
    (hW : DataW.Whole enc Tryz.prog f.params.toList s.vars false W args.toList ds gs before) (hb : Below W.heap.size W W') :
    s.post enc Tryz.prog f false true false false W args (.bool true) W' := by
  have hlt : ∀ p ∈ before, p.block < W.heap.size := fun p hp => hW.lt p hp
  obtain ⟨p, q, hA, hV, hpq, hz, hn⟩ := id hW
  have hq : q = [] := by
    rw [hvars] at hV
    cases gs with
    | nil => exact hV
    | cons _ _ => simp [DataW.TrodVars] at hV
  subst hq
  rw [List.append_nil] at hpq
  refine ⟨ds, gs, before, [], p, [], hW, ?_, ?_, ?_, World.keptBut_mono (fun x hx => ⟨hx, ?_⟩) (hb.frame (· ∈ before)), fun h => by cases h⟩
  · rw [hs, hres]
    exact trodAll_cons_mk (shut_bool Tryz.underlying4 _) trodAll_mk0
  · rw [hs]
    exact trodAll_below hb _ _ _ _ hr hA (fun x hx => hlt x (by rw [hpq]; exact hx))
  · rw [hs, hvars]; rfl
  · rw [hpq] at hx; exact .inr (.inl hx)

/-- A slice whose elements (each of 'size' cells) read as the elements of a list. -/
def SliceOf {α : Type} (w : World) (size : Nat) (R : World → α → List Value → Prop) (v : Value) (l : List α) : Prop :=
  l.length ≤ 9223372036854775807 ∧ ∃ (a : Option Addr) (c : Nat), v = .slice a l.length c ∧ l.length ≤ c ∧
    (0 < l.length → ∃ b o, a = some ⟨b, o, none⟩ ∧ ∀ i x, l[i]? = some x → ∃ cs, cs.length = size ∧ R w x cs ∧ ∀ j u, cs[j]? = some u → w.cell? ⟨b, o + i * size + j, none⟩ = some u)

theorem open_sliceOf {H : Type} {enc : TypeId × Value → H} {P : Program} {w : World} {spare : Nat → Bool} {t e : TypeId} {v : Value} {d : DataW H} {ps : List MemPlace} {α : Type} {R : World → α → List Value → Prop} {size : Nat} {base : Nat}
    (ht : P.underlying t = some (.slice e)) (hce : P.cellsOf e = size) (hsz : 0 < size) (hv : Value.okWide P w .any base t v)
    (hel : ∀ n cs y, DataW.trod enc P w 0 spare true n e cs = some y → cs.length = size → ∃ x, R w x cs)
    (h : DataW.Trod enc P w 0 spare true t v d ps) : ∃ l : List α, SliceOf w size R v l := by
  obtain ⟨a0, len, cap, rfl⟩ := okWide_slice ht hv
  obtain ⟨fuel, hf⟩ := h
  rcases Go.Deep.open_slice ht hf with ⟨hcs, _⟩ | ⟨a, len', cap', m, n, D, Pl, hcs, _, hl, hm, hmm, _, hx⟩
  · simp [Value.cells] at hcs
    obtain ⟨rfl, rfl, rfl⟩ := hcs
    exact ⟨[], by simp, none, 0, rfl, by simp, by simp⟩
  · simp [Value.cells] at hcs
    obtain ⟨rfl, rfl, rfl⟩ := hcs
    have hlm : len ≤ m := by rw [hmm]; split <;> omega
    have each : ∀ i : Fin len, ∃ x cs, cs.length = size ∧ R w x cs ∧ ∀ j u, cs[j]? = some u → w.cell? ((a.add (i * size)).add j) = some u := by
      intro i
      obtain ⟨cs, h1, h2⟩ := hx i (by omega)
      rw [hce] at h1
      obtain ⟨_, hlen, hcell⟩ := World.cells?_some h1
      obtain ⟨x, hxr⟩ := hel _ _ _ h2 hlen
      refine ⟨x, cs, hlen, hxr, fun j u hu => ?_⟩
      have hj : j < size := by rw [← hlen]; exact (List.getElem?_eq_some_iff.1 hu).1
      rw [hcell j hj]; exact hu
    let f : Fin len → α := fun i => Classical.choose (each i)
    have hf' : ∀ i : Fin len, ∃ cs, cs.length = size ∧ R w (f i) cs ∧ ∀ j u, cs[j]? = some u → w.cell? ((a.add (i * size)).add j) = some u := fun i => Classical.choose_spec (each i)
    have hlen : (List.ofFn f).length = len := List.length_ofFn
    refine ⟨List.ofFn f, by rw [hlen]; unfold maxLen at hm; omega, some a, cap, by rw [hlen], by rw [hlen]; exact hl, fun hpos => ?_⟩
    rw [hlen] at hpos
    obtain ⟨b, o, spot⟩ := a
    have hspot : spot = none := by
      obtain ⟨cs, h1, _⟩ := hx 0 (by omega)
      rw [hce] at h1
      obtain ⟨_, hl0, hcell⟩ := World.cells?_some h1
      have h2 := hcell 0 hsz
      rw [List.getElem?_eq_getElem (by omega)] at h2
      have h3 : w.cell? ⟨b, o, spot⟩ = some (cs[0]'(by omega)) := by simpa [Addr.add] using h2
      cases spot with
      | none => rfl
      | some s => simp [World.cell?] at h3; split at h3 <;> simp at h3
    subst hspot
    refine ⟨b, o, rfl, fun i x hi => ?_⟩
    have hil : i < len := by rw [← hlen]; exact (List.getElem?_eq_some_iff.1 hi).1
    obtain ⟨cs, h1, h2, h3⟩ := hf' ⟨i, hil⟩
    have hxe : x = f ⟨i, hil⟩ := by
      rw [List.getElem?_ofFn] at hi
      simp [hil] at hi
      exact hi.symm
    refine ⟨cs, h1, by rw [hxe]; exact h2, fun j u hu => ?_⟩
    have := h3 j u hu
    rw [Go.Deep.add_add] at this
    rw [Addr.add_lit] at this
    rw [Nat.add_assoc]; exact this

mutual
/-- The cells of a datum of numbers. -/
def litCells : DataW Unit → List Value
  | .lit (.int k n) => [.int k n]
  | .agg parts => litCellsAll parts
  | _ => []
def litCellsAll : List (DataW Unit) → List Value
  | [] => []
  | d :: r => litCells d ++ litCellsAll r
end
end Go.Proofs.YtngigmpaabmngaaGreatDoor

namespace Go.Proofs.YtngigmpaabmngaaGreatDoor
open Go.ChangeShapes Go.WideShapes Go.ChangeAt Go.RowKit
open Go.ChangeMaps (open_string)

theorem open_sl_trod {H : Type} {enc : TypeId × Value → H} {P : Program} {w : World} {spare : Nat → Bool} {t e : TypeId} {cs0 : List Value} {y0 : DataW H × List MemPlace} {n0 : Nat} {α : Type} (E : El P α) (Pr : α → Prop)
    (ht : P.underlying t = some (.slice e)) (hce : P.cellsOf e = E.size)
    (hel : ∀ n cs y, DataW.trod enc P w 0 spare true n e cs = some y → cs.length = E.size → ∃ x, E.is w free x cs ∧ Pr x)
    (h : DataW.trod enc P w 0 spare true n0 t cs0 = some y0) : ∃ (v : Value) (l : List α), cs0 = [v] ∧ Sl E w free v l ∧ ∀ x ∈ l, Pr x := by
  rcases Go.Deep.open_slice ht h with ⟨hcs, _⟩ | ⟨a, len, cap, m, n, D, Pl, hcs, _, hl, hm, hmm, _, hx⟩
  · exact ⟨_, [], hcs, Sl.nil _ _ _ _ _, by simp⟩
  · have hlm : len ≤ m := by rw [hmm]; split <;> omega
    have hsz := E.pos
    have each : ∀ i : Fin len, ∃ x cs, cs.length = E.size ∧ (E.is w free x cs ∧ Pr x) ∧ ∀ j u, cs[j]? = some u → w.cell? ((a.add (i * E.size)).add j) = some u := by
      intro i
      obtain ⟨cs, h1, h2⟩ := hx i (by omega)
      rw [hce] at h1
      obtain ⟨_, hlen, hcell⟩ := World.cells?_some h1
      obtain ⟨x, hxr⟩ := hel _ _ _ h2 hlen
      refine ⟨x, cs, hlen, hxr, fun j u hu => ?_⟩
      have hj : j < E.size := by rw [← hlen]; exact (List.getElem?_eq_some_iff.1 hu).1
      rw [hcell j hj]; exact hu
    let f : Fin len → α := fun i => Classical.choose (each i)
    have hf' : ∀ i : Fin len, ∃ cs, cs.length = E.size ∧ (E.is w free (f i) cs ∧ Pr (f i)) ∧ ∀ j u, cs[j]? = some u → w.cell? ((a.add (i * E.size)).add j) = some u := fun i => Classical.choose_spec (each i)
    have hlen : (List.ofFn f).length = len := List.length_ofFn
    refine ⟨_, List.ofFn f, hcs, ⟨by rw [hlen]; unfold maxLen at hm; omega, some a, cap, by rw [hlen], by rw [hlen]; exact hl, fun hpos => ?_⟩, fun x hx => ?_⟩
    · rw [hlen] at hpos
      obtain ⟨b, o, spot⟩ := a
      have hspot : spot = none := by
        obtain ⟨cs, h1, _⟩ := hx 0 (by omega)
        rw [hce] at h1
        obtain ⟨_, hl0, hcell⟩ := World.cells?_some h1
        have h2 := hcell 0 hsz
        rw [List.getElem?_eq_getElem (by omega)] at h2
        have h3 : w.cell? ⟨b, o, spot⟩ = some (cs[0]'(by omega)) := by simpa [Addr.add] using h2
        cases spot with
        | none => rfl
        | some s => simp [World.cell?] at h3; split at h3 <;> simp at h3
      subst hspot
      refine ⟨b, o, rfl, id, fun i x hi => ?_⟩
      have hil : i < len := by rw [← hlen]; exact (List.getElem?_eq_some_iff.1 hi).1
      obtain ⟨cs, h1, h2, h3⟩ := hf' ⟨i, hil⟩
      have hxe : x = f ⟨i, hil⟩ := by
        rw [List.getElem?_ofFn] at hi
        simp [hil] at hi
        exact hi.symm
      refine ⟨cs, by rw [hxe]; exact h2.1, fun j u hu => ?_⟩
      have := h3 j u hu
      rw [Go.Deep.add_add] at this
      rw [Addr.add_lit] at this
      rw [Nat.add_assoc]; exact this
    · obtain ⟨i, rfl⟩ := List.mem_ofFn.1 hx
      exact (hf' i).choose_spec.2.1.2
theorem open_sl {H : Type} {enc : TypeId × Value → H} {P : Program} {w : World} {spare : Nat → Bool} {t e : TypeId} {v : Value} {d : DataW H} {ps : List MemPlace} {α : Type} {base : Nat} (E : El P α) (Pr : α → Prop)
    (ht : P.underlying t = some (.slice e)) (hce : P.cellsOf e = E.size) (hv : Value.okWide P w .any base t v)
    (hel : ∀ n cs y, DataW.trod enc P w 0 spare true n e cs = some y → cs.length = E.size → ∃ x, E.is w free x cs ∧ Pr x)
    (h : DataW.Trod enc P w 0 spare true t v d ps) : ∃ l : List α, Sl E w free v l ∧ ∀ x ∈ l, Pr x := by
  obtain ⟨a0, len, cap, rfl⟩ := okWide_slice ht hv
  obtain ⟨fuel, hf⟩ := h
  obtain ⟨v, l, hcs, hl⟩ := open_sl_trod E Pr ht hce hel hf
  simp [Value.cells] at hcs
  subst hcs
  exact ⟨l, hl⟩
theorem cells_int : Tryz.prog.cellsOf 3 = 1 := by kernel_rfl
theorem cells_i64 : Tryz.prog.cellsOf 2 = 1 := by kernel_rfl
theorem cells_string : Tryz.prog.cellsOf 9 = 1 := by kernel_rfl
theorem cells_val : Tryz.prog.cellsOf 86 = 3 := by kernel_rfl
/-- An int. -/
def Is64 (x : Int) : Prop := -9223372036854775808 ≤ x ∧ x ≤ 9223372036854775807
section
variable {H : Type} {enc : TypeId × Value → H} {w : World} {spare : Nat → Bool}
theorem is64_of {n : Int} (h : (Lit.int .i64 n).wf = true) : Is64 n := by
  simp [Lit.wf, IntKind.min, IntKind.max, IntKind.signed, IntKind.bits] at h
  unfold Is64
  omega
theorem open_int_el (n : Nat) (cs : List Value) (y : DataW H × List MemPlace) (h : DataW.trod enc Tryz.prog w 0 spare true n 3 cs = some y) (hl : cs.length = 1) : ∃ x, intE.is w free x cs ∧ Is64 x := by
  match cs, hl with
  | [c0], _ =>
    obtain ⟨k0, e0, _, hw⟩ := DataW.trod_int Tryz.underlying3 h
    simp at e0
    subst e0
    exact ⟨k0, rfl, is64_of hw⟩
/-- A value whose numbers and text are a machine's. -/
def IsVal (x : GVal) : Prop := Is64 x.kind ∧ Is64 x.n ∧ x.s.size ≤ maxLen
set_option maxRecDepth 10000 in
theorem open_val_el (n : Nat) (cs : List Value) (y : DataW H × List MemPlace) (h : DataW.trod enc Tryz.prog w 0 spare true n 86 cs = some y) (hl : cs.length = 3) : ∃ x, valE.is w free x cs ∧ IsVal x := by
  obtain ⟨xs, k, hk, hxy, _, hxl, hf⟩ := DataW.trod_struct Tryz.underlying86 h
  match cs, hl with
  | [c0, c1, c2], _ =>
    match xs, hxl with
    | [y0, y1, y2], _ =>
      have g0 := hf 0 _ rfl
      have g1 := hf 1 _ rfl
      have g2 := hf 2 _ rfl
      simp [cells_int, cells_i64, cells_string] at g0 g1 g2
      obtain ⟨k0, e0, _, w0⟩ := DataW.trod_int Tryz.underlying3 g0
      obtain ⟨k1, e1, _, w1⟩ := DataW.trod_int Tryz.underlying2 g1
      obtain ⟨s, e2, _, hs⟩ := DataW.trod_string Tryz.underlying9 g2
      simp at e0 e1 e2
      subst e0 e1 e2
      exact ⟨⟨k0, k1, s⟩, rfl, is64_of w0, is64_of w1, hs⟩
set_option maxRecDepth 10000 in
/-- An argument that is a value. -/
theorem open_valarg {base : Nat} {v : Value} {d : DataW H} {ps : List MemPlace} (hv : Value.okWide Tryz.prog w .any base 86 v) (h : DataW.Trod enc Tryz.prog w 0 spare true 86 v d ps) : ∃ x : GVal, v = aggG x ∧ IsVal x := by
  obtain ⟨cs, rfl, hs⟩ := okWide_struct Tryz.underlying86 hv
  obtain ⟨fuel, hf⟩ := h
  obtain ⟨x, hx, hp⟩ := open_val_el _ _ _ hf (by rw [cells_val] at hs; simpa [Value.cells] using hs)
  refine ⟨x, ?_, hp⟩
  have e : cs.toList = valOf x := hx
  obtain ⟨l⟩ := cs
  simp at e
  subst e
  rfl
end
end Go.Proofs.YtngigmpaabmngaaGreatDoor

namespace Go.Proofs.YtngigmpaabmngaaGreatDoor
open Go.ChangeShapes Go.WideShapes Go.ChangeAt Go.RowKit

theorem pow_type : (Tryz.prog.globals[1]?).map (·.type) = some 214 := by kernel_rfl
theorem cells_u64 : Tryz.prog.cellsOf 159 = 1 := by kernel_rfl
theorem cells_pow : Tryz.prog.cellsOf 214 = 20 := by kernel_rfl
/-- What the rows list. -/
abbrev laidList : List (String × DataW Unit) := [("math/bits.deBruijn32tab", Rows.laid_math_bits_deBruijn32tab), ("math/bits.deBruijn64tab", Rows.laid_math_bits_deBruijn64tab), ("internal/strconv.uint64pow10", Rows.laid_internal_strconv_uint64pow10)]
theorem pow_data : (Rows.laid_internal_strconv_uint64pow10 : DataW Unit) = Lib.tabData .u64 Lib.pow10Tab := by kernel_rfl
theorem pow_of_laid {W : World} (h : laidMet Tryz.prog laidList W) : Pow W := by
  have h1 := laidMet.tail (laidMet.tail h)
  rw [pow_data] at h1
  exact Lib.tabIs_of_head pow_named pow_type Tryz.underlying214 Tryz.underlying159 cells_u64 cells_pow h1
/-- Block n's cells replaced. -/
def layAt (w : World) (n : Nat) (cs : Array Value) : World :=
  { w with heap := w.heap.modify n fun
      | .cells _ t frozen => .cells cs t frozen
      | o => o }
noncomputable def laidWorld (os : Os) : World :=
  let w0 := World.holding Tryz.prog os ⟨#[], #[], []⟩
  let w3 := layAt w0 2 (litCells Rows.laid_math_bits_deBruijn32tab).toArray
  let w4 := layAt w3 3 (litCells Rows.laid_math_bits_deBruijn64tab).toArray
  layAt w4 1 (litCells Rows.laid_internal_strconv_uint64pow10).toArray
theorem laid_met (os : Os) (args : Array Value) : laidMet Tryz.prog laidList ((laidWorld os).forCall (fun _ _ => 0) ⟨#[], args, []⟩).memory :=
  laidMet_of_run' 8 (by kernel_rfl) (by kernel_rfl)
end Go.Proofs.YtngigmpaabmngaaGreatDoor

namespace Go.Proofs.YtngigmpaabmngaaGreatDoor
open Go.ChangeShapes Go.WideShapes Go.ChangeAt Go.RowKit
open Go.ChangeMaps (open_string)

theorem cells_per : Tryz.prog.cellsOf 50 = 2 := by kernel_rfl
theorem cells_tup : Tryz.prog.cellsOf 52 = 4 := by kernel_rfl
theorem cells_ints : Tryz.prog.cellsOf 23 = 1 := by kernel_rfl
theorem cells_vals : Tryz.prog.cellsOf 37 = 1 := by kernel_rfl
section
variable {H : Type} {enc : TypeId × Value → H} {w : World} {spare : Nat → Bool}
/-- A tuple whose numbers are a machine's. -/
def IsTup (x : Tup) : Prop := Is64 x.lo ∧ Is64 x.hi ∧ (∀ v ∈ x.vals, IsVal v) ∧ ∀ i ∈ x.lin, Is64 i
set_option maxRecDepth 10000 in
theorem open_tup_el (n : Nat) (cs : List Value) (y : DataW H × List MemPlace) (h : DataW.trod enc Tryz.prog w 0 spare true n 52 cs = some y) (hl : cs.length = 4) : ∃ x, tupE.is w free x cs ∧ IsTup x := by
  obtain ⟨xs, k, hk, hxy, _, hxl, hf⟩ := DataW.trod_struct Tryz.underlying52 h
  match cs, hl with
  | [c0, c1, c2, c3], _ =>
    match xs, hxl with
    | [y0, y1, y2], _ =>
      have g0 := hf 0 _ rfl
      have g1 := hf 1 _ rfl
      have g2 := hf 2 _ rfl
      simp [cells_ints, cells_vals, cells_per] at g0 g1 g2
      obtain ⟨v, lv, e0, hv, pv⟩ := open_sl_trod valE IsVal Tryz.underlying37 cells_val open_val_el g0
      obtain ⟨u, lu, e2, hu, pu⟩ := open_sl_trod intE Is64 Tryz.underlying23 cells_int open_int_el g2
      obtain ⟨xs1, k1, _, _, _, hxl1, hf1⟩ := DataW.trod_struct Tryz.underlying50 g1
      match xs1, hxl1 with
      | [z0, z1], _ =>
        have f0 := hf1 0 _ rfl
        have f1 := hf1 1 _ rfl
        simp [cells_int] at f0 f1
        obtain ⟨k0, e3, _, w0⟩ := DataW.trod_int Tryz.underlying3 f0
        obtain ⟨k1, e4, _, w1⟩ := DataW.trod_int Tryz.underlying3 f1
        simp at e0 e2 e3 e4
        subst e0 e2 e3 e4
        exact ⟨⟨lv, k0, k1, lu⟩, ⟨_, _, rfl, hv, hu⟩, is64_of w0, is64_of w1, pv, pu⟩
end
end Go.Proofs.YtngigmpaabmngaaGreatDoor

namespace Go.Proofs.YtngigmpaabmngaaGreatDoor
open Go.ChangeShapes Go.WideShapes Go.ChangeAt Go.RowKit

theorem cells_u16 : Tryz.prog.cellsOf 34 = 1 := by kernel_rfl
theorem cells_u5 : Tryz.prog.cellsOf 54 = 5 := by kernel_rfl
theorem u16_of {n : Int} (h : (Lit.int .u16 n).wf = true) : ∃ k : Nat, n = (k : Int) ∧ k < 65536 := by
  simp [Lit.wf, IntKind.min, IntKind.max, IntKind.signed, IntKind.bits] at h
  obtain ⟨k, rfl⟩ := Int.eq_ofNat_of_zero_le h.1
  exact ⟨k, rfl, by omega⟩
set_option maxRecDepth 10000 in
theorem open_u5_el {H : Type} {enc : TypeId × Value → H} {w : World} {spare : Nat → Bool} (n : Nat) (cs : List Value) (y : DataW H × List MemPlace) (h : DataW.trod enc Tryz.prog w 0 spare true n 54 cs = some y) (hl : cs.length = 5) : ∃ x, u5E.is w free x cs ∧ x.ok := by
  obtain ⟨xs, k, hk, hxy, _, hxl, hf⟩ := DataW.trod_array Tryz.underlying54 h
  match cs, hl with
  | [c0, c1, c2, c3, c4], _ =>
    match xs, hxl with
    | [y0, y1, y2, y3, y4], _ =>
      have g0 := hf 0 (by omega)
      have g1 := hf 1 (by omega)
      have g2 := hf 2 (by omega)
      have g3 := hf 3 (by omega)
      have g4 := hf 4 (by omega)
      simp [cells_u16] at g0 g1 g2 g3 g4
      obtain ⟨k0, e0, _, w0⟩ := DataW.trod_int Tryz.underlying34 g0
      obtain ⟨k1, e1, _, w1⟩ := DataW.trod_int Tryz.underlying34 g1
      obtain ⟨k2, e2, _, w2⟩ := DataW.trod_int Tryz.underlying34 g2
      obtain ⟨k3, e3, _, w3⟩ := DataW.trod_int Tryz.underlying34 g3
      obtain ⟨k4, e4, _, w4⟩ := DataW.trod_int Tryz.underlying34 g4
      simp at e0 e1 e2 e3 e4
      subst e0 e1 e2 e3 e4
      obtain ⟨n0, rfl, b0⟩ := u16_of w0
      obtain ⟨n1, rfl, b1⟩ := u16_of w1
      obtain ⟨n2, rfl, b2⟩ := u16_of w2
      obtain ⟨n3, rfl, b3⟩ := u16_of w3
      obtain ⟨n4, rfl, b4⟩ := u16_of w4
      exact ⟨⟨n0, n1, n2, n3, n4⟩, rfl, b0, b1, b2, b3, b4⟩
end Go.Proofs.YtngigmpaabmngaaGreatDoor

namespace Go.Proofs.YtngigmpaabmngaaGreatDoor
open Go.ChangeShapes Go.WideShapes Go.ChangeAt Go.RowKit
open Go.ChangeMaps (open_string)

theorem open_sl_b {H : Type} {enc : TypeId × Value → H} {P : Program} {w : World} {spare : Nat → Bool} {t e : TypeId} {v : Value} {d : DataW H} {ps : List MemPlace} {α : Type} {base : Nat} (E : El P α) (Pr : α → DataW H → Prop)
    (ht : P.underlying t = some (.slice e)) (hce : P.cellsOf e = E.size) (hv : Value.okWide P w .any base t v)
    (hel : ∀ n cs y, DataW.trod enc P w 0 spare true n e cs = some y → cs.length = E.size → ∃ x, E.is w free x cs ∧ Pr x y.1)
    (h : DataW.Trod enc P w 0 spare true t v d ps) : ∃ l : List α, Sl E w free v l ∧ ∀ x ∈ l, ∃ elems sp dx, d = .slice elems sp ∧ dx ∈ elems ∧ Pr x dx := by
  obtain ⟨a0, len0, cap0, rfl⟩ := okWide_slice ht hv
  obtain ⟨fuel, hf⟩ := h
  rcases Go.Deep.open_slice ht hf with ⟨hcs, _⟩ | ⟨a, len, cap, m, n, D, Pl, hcs, _, hl, hm, hmm, hxe, hx⟩
  · simp [Value.cells] at hcs
    obtain ⟨rfl, rfl, rfl⟩ := hcs
    exact ⟨[], Sl.nil _ _ _ _ _, by simp⟩
  · simp [Value.cells] at hcs
    obtain ⟨rfl, rfl, rfl⟩ := hcs
    have hd : d = .slice ((List.range len0).map D) ((List.range (m - len0)).map fun j => D (len0 + j)) := congrArg Prod.fst hxe
    have hlm : len0 ≤ m := by rw [hmm]; split <;> omega
    have hsz := E.pos
    have each : ∀ i : Fin len0, ∃ x cs, cs.length = E.size ∧ (E.is w free x cs ∧ Pr x (D i)) ∧ ∀ j u, cs[j]? = some u → w.cell? ((a.add (i * E.size)).add j) = some u := by
      intro i
      obtain ⟨cs, h1, h2⟩ := hx i (by omega)
      rw [hce] at h1
      obtain ⟨_, hlen, hcell⟩ := World.cells?_some h1
      obtain ⟨x, hxr⟩ := hel _ _ _ h2 hlen
      refine ⟨x, cs, hlen, hxr, fun j u hu => ?_⟩
      have hj : j < E.size := by rw [← hlen]; exact (List.getElem?_eq_some_iff.1 hu).1
      rw [hcell j hj]; exact hu
    let f : Fin len0 → α := fun i => Classical.choose (each i)
    have hf' : ∀ i : Fin len0, ∃ cs, cs.length = E.size ∧ (E.is w free (f i) cs ∧ Pr (f i) (D i)) ∧ ∀ j u, cs[j]? = some u → w.cell? ((a.add (i * E.size)).add j) = some u := fun i => Classical.choose_spec (each i)
    have hlen : (List.ofFn f).length = len0 := List.length_ofFn
    refine ⟨List.ofFn f, ⟨by rw [hlen]; unfold maxLen at hm; omega, some a, cap0, by rw [hlen], by rw [hlen]; exact hl, fun hpos => ?_⟩, fun x hx' => ?_⟩
    · rw [hlen] at hpos
      obtain ⟨b, o, spot⟩ := a
      have hspot : spot = none := by
        obtain ⟨cs, h1, _⟩ := hx 0 (by omega)
        rw [hce] at h1
        obtain ⟨_, hl0, hcell⟩ := World.cells?_some h1
        have h2 := hcell 0 hsz
        rw [List.getElem?_eq_getElem (by omega)] at h2
        have h3 : w.cell? ⟨b, o, spot⟩ = some (cs[0]'(by omega)) := by simpa [Addr.add] using h2
        cases spot with
        | none => rfl
        | some s => simp [World.cell?] at h3; split at h3 <;> simp at h3
      subst hspot
      refine ⟨b, o, rfl, id, fun i x hi => ?_⟩
      have hil : i < len0 := by rw [← hlen]; exact (List.getElem?_eq_some_iff.1 hi).1
      obtain ⟨cs, h1, h2, h3⟩ := hf' ⟨i, hil⟩
      have hxe : x = f ⟨i, hil⟩ := by
        rw [List.getElem?_ofFn] at hi
        simp [hil] at hi
        exact hi.symm
      refine ⟨cs, by rw [hxe]; exact h2.1, fun j u hu => ?_⟩
      have := h3 j u hu
      rw [Go.Deep.add_add] at this
      rw [Addr.add_lit] at this
      rw [Nat.add_assoc]; exact this
    · obtain ⟨i, rfl⟩ := List.mem_ofFn.1 hx'
      exact ⟨_, _, D i, hd, List.mem_map.2 ⟨i, List.mem_range.2 i.2, rfl⟩, (hf' i).choose_spec.2.1.2⟩
theorem bulk_mem {H : Type} (l : List (DataW H)) : ∀ d ∈ l, Rows.uptoBulk d ≤ Rows.uptoBulkAll l := by
  induction l with
  | nil => intro d h; simp at h
  | cons e l ih =>
    intro d h
    rw [Rows.uptoBulkAll]
    rcases List.mem_cons.1 h with rfl | h
    · omega
    · have := ih d h; omega
/-- Its numbers are a machine's; its text is no longer than the datum's bulk. -/
def BVal {H : Type} (x : GVal) (d : DataW H) : Prop := IsVal x ∧ x.s.size ≤ Rows.uptoBulk d
section
variable {H : Type} {enc : TypeId × Value → H} {w : World} {spare : Nat → Bool}
set_option maxRecDepth 10000 in
theorem open_val_b (n : Nat) (cs : List Value) (y : DataW H × List MemPlace) (h : DataW.trod enc Tryz.prog w 0 spare true n 86 cs = some y) (hl : cs.length = 3) : ∃ x, valE.is w free x cs ∧ BVal x y.1 := by
  obtain ⟨xs, k, hk, hxy, hy2, hxl, hf⟩ := DataW.trod_struct Tryz.underlying86 h
  match cs, hl with
  | [c0, c1, c2], _ =>
    match xs, hxl with
    | [y0, y1, y2], _ =>
      have g0 := hf 0 _ rfl
      have g1 := hf 1 _ rfl
      have g2 := hf 2 _ rfl
      simp [cells_int, cells_i64, cells_string] at g0 g1 g2
      obtain ⟨k0, e0, _, w0⟩ := DataW.trod_int Tryz.underlying3 g0
      obtain ⟨k1, e1, _, w1⟩ := DataW.trod_int Tryz.underlying2 g1
      obtain ⟨s, e2, e3, hs⟩ := DataW.trod_string Tryz.underlying9 g2
      simp at e0 e1 e2
      subst e0 e1 e2
      refine ⟨⟨k0, k1, s⟩, rfl, ⟨is64_of w0, is64_of w1, hs⟩, ?_⟩
      rw [hxy, e3]
      have hz := Lib.size_eq s
      simp only [List.map_cons, List.map_nil, Rows.uptoBulk, Rows.uptoBulkAll]
      omega
set_option maxRecDepth 10000 in
/-- A slice of values whose reading's bulk is bounded. -/
theorem open_vals_b {v : Value} {d : DataW H} {ps : List MemPlace} {base n : Nat} (hv : Value.okWide Tryz.prog w .any base 37 v) (h : DataW.Trod enc Tryz.prog w 0 spare true 37 v d ps) (hb : Rows.uptoBulk d ≤ n) :
    ∃ l : List GVal, Sl valE w free v l ∧ ∀ x ∈ l, IsVal x ∧ x.s.size ≤ n := by
  obtain ⟨l, h1, h2⟩ := open_sl_b valE BVal Tryz.underlying37 cells_val hv open_val_b h
  refine ⟨l, h1, fun x hx => ?_⟩
  obtain ⟨elems, sp, dx, rfl, hm, hp, hq⟩ := h2 x hx
  refine ⟨hp, ?_⟩
  have := bulk_mem elems dx hm
  rw [Rows.uptoBulk] at hb
  omega
/-- A small argument's bulk. -/
theorem bulk_le {ds : List (DataW H)} (hk : Rows.uptoSmall H ds = true) {d : DataW H} (hd : d ∈ ds) : Rows.uptoBulk d ≤ 1048576 := by
  have h1 := bulk_mem ds d hd
  have h2 : Rows.uptoBulkAll ds ≤ 1048576 := of_decide_eq_true hk
  omega
set_option maxRecDepth 10000 in
theorem open_u8v {base : Nat} {v : Value} {d : DataW H} {ps : List MemPlace}
    (hv : Value.okWide Tryz.prog w .any base 5 v) (h : DataW.Trod enc Tryz.prog w 0 spare true 5 v d ps) : ∃ x : Nat, v = .int .u8 (x : Int) ∧ x < 256 := by
  obtain ⟨n, rfl, _, _, hw⟩ := open_int Tryz.underlying5 hv h
  simp [Lit.wf, IntKind.min, IntKind.max, IntKind.signed, IntKind.bits] at hw
  obtain ⟨k, rfl⟩ := Int.eq_ofNat_of_zero_le hw.1
  exact ⟨k, rfl, by omega⟩
end
end Go.Proofs.YtngigmpaabmngaaGreatDoor
