/- The laws' builder of slices of tuples. No condition. -/
import Derived.Test.YtminnkihcohflaaBldB
namespace Go.Proofs.Ytminnkihcohflaa
open Go.RowKit Go.Lib Go.Shelf

theorem u5_at {w : World} {a : Option Addr} {n c k : Nat} {l : List U5} {x : U5} (h : Sl u5E w free (.slice a n c) l) (hk : l[k]? = some x) :
    ∃ b o, a = some ⟨b, o, none⟩ ∧ w.cell? ⟨b, o + k * 5, none⟩ = some (.int .u16 (x.x0 : Int)) ∧ w.cell? ⟨b, o + k * 5 + 1, none⟩ = some (.int .u16 (x.x1 : Int)) ∧ w.cell? ⟨b, o + k * 5 + 2, none⟩ = some (.int .u16 (x.x2 : Int)) ∧ w.cell? ⟨b, o + k * 5 + 3, none⟩ = some (.int .u16 (x.x3 : Int)) ∧ w.cell? ⟨b, o + k * 5 + 4, none⟩ = some (.int .u16 (x.x4 : Int)) := by
  obtain ⟨b, o, cs, ha, rfl, hc⟩ := Sl.at h hk
  exact ⟨b, o, ha, hc 0 _ rfl, hc 1 _ rfl, hc 2 _ rfl, hc 3 _ rfl, hc 4 _ rfl⟩
def tupsOf (l : List U5) (m : Nat) : List Tup := (l.take m).map tupOf
theorem tupsOf_length (l : List U5) (m : Nat) : (tupsOf l m).length ≤ m := by simp [tupsOf]; omega
set_option maxHeartbeats 4000000 in
set_option maxRecDepth 100000 in
theorem tuples_any (v : Value) (l : List U5) (m : Nat) (hm : m ≤ 1000) (w : World) (hv : Sl u5E w free v l) (hok : ∀ x ∈ l, x.ok) :
    Calls Try.prog 36 #[v, .int .i64 (m : Int)] w (RetOwn tupE w (tupsOf l m)) := by
  obtain ⟨a, c, rfl⟩ := hv.shape
  have HV := Lib.hid hv
  have HOK := Lib.hid hok
  have h63 := hv.1
  obtain ⟨n, hn⟩ : ∃ n, n = l.length := ⟨_, rfl⟩
  have HN := Lib.hid hn
  rw [← hn] at HV h63 ⊢
  clear hv hn hok
  go_enter Try.func36, Try.ntmps36
  go_wp2_with fail
  go_loopw [6, 5] (fun i o wr => ∃ k : Nat, k ≤ n ∧ k ≤ m ∧ i = .int .i64 k ∧ Own tupE wr w.heap.size o ((l.take k).map tupOf) ∧ Below w.heap.size w wr) (fun i _ _ => n - (intOf i).toNat)
  case atStart => exact ⟨0, Nat.zero_le _, Nat.zero_le _, rfl, Own.nil _ _ _, Below.refl _ _⟩
  case round =>
    obtain ⟨k, hk, hkm, rfl, hO, hB⟩ := hrel
    obtain ⟨acc, hacc⟩ : ∃ acc, acc = (l.take k).map tupOf := ⟨_, rfl⟩
    have hlen : acc.length ≤ k := by rw [hacc]; simp; omega
    rw [← hacc] at hO
    obtain ⟨oa, oc, rfl⟩ := hO.shape
    have HACC := Lib.hid hacc
    clear hacc
    by_cases hlt : k < n ∧ k < m
    · obtain ⟨hlt1, hlt2⟩ := hlt
      obtain ⟨x, hx⟩ := lget_some l k (by rw [← HN.out]; exact hlt1)
      obtain ⟨b, o, rfl, p0, p1, p2, p3, p4⟩ := u5_at HV.out hx
      replace p0 := cell_keep hB p0
      replace p1 := cell_keep hB p1
      replace p2 := cell_keep hB p2
      replace p3 := cell_keep hB p3
      replace p4 := cell_keep hB p4
      have HT : Hid ((l.take (k + 1)).map tupOf = acc ++ [tupOf x]) := by show _ = _; rw [take_get hx, HACC.out, List.map_append]; rfl
      have HX := Lib.hid (HOK.out x (List.mem_of_getElem? hx))
      clear hx
      obtain ⟨t, ht⟩ : ∃ t, t = tupOf x := ⟨_, rfl⟩
      have HTU := Lib.hid (tuple_any x HX.out wr)
      rw [← ht] at HT HTU
      clear ht
      go_wp2_with fail
      refine HTU.out.mono ?_
      rintro e w2 hN
      obtain ⟨a4, c4, b4, d4, rfl, his⟩ := hN.cells
      have hb2 := hN.below
      clear hN
      have hB2 := below_keep hB hb2
      have hO2 := hO.below hb2
      go_wp2_with (at_builtin; refine wpList_push rfl _ _ 22 rfl tupE Try.underlying22 w.heap.size (.slice oa acc.length oc) acc rfl hO2 [t] #[.slice a4 t.vals.length c4, .int .i64 t.lo, .int .i64 t.hi, .slice b4 t.lin.length d4] (Els.one (tupE.mono his (fun k _ hk => (hO.lt k hk.symm).2))) 1 1 rfl rfl (by decide) (by unfold maxLen; omega) (by show _ * 64 ≤ _; omega) hB2.size ?_; intro g cap w5 hP hPa)
      go_roundw
      case rel => exact ⟨k + 1, by omega, by omega, by go_num, by rw [HT.out]; exact hP.own' (by simp), hB2.trans hP.below⟩
      case measure => simp [intOf]; omega
    · have HF : Hid (acc = tupsOf l m) := by
        show _ = _
        rw [HACC.out, tupsOf]
        by_cases h1 : k < n
        · have : k = m := by omega
          rw [this]
        · rw [List.take_of_length_le (by rw [← HN.out]; omega), List.take_of_length_le (by rw [← HN.out]; omega)]
      by_cases h1 : k < n
      · have h2 : ¬ k < m := fun h => hlt ⟨h1, h⟩
        clear hlt
        go_wp2_with fail
        go_ret
        exact ⟨_, rfl, by rw [← HF.out]; exact hO, hB⟩
      · clear hlt
        go_wp2_with fail
        go_ret
        exact ⟨_, rfl, by rw [← HF.out]; exact hO, hB⟩
end Go.Proofs.Ytminnkihcohflaa
