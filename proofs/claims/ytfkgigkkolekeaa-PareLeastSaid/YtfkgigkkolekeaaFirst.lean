/- The walk of pare.First. -/
import Derived.Test.YtfkgigkkolekeaaDown
namespace Go.Proofs.Ytfkgigkkolekeaa
open Go.RowKit

theorem CRow.take {w : World} {a : Option Addr} {n cap : Nat} {l : List Int} (h : CRow w (.slice a n cap) l) (k : Nat) (hk : k ≤ l.length) : CRow w (.slice a k cap) (l.take k) := by
  obtain ⟨a', cap', he, h1, h2, h3⟩ := h
  simp only [Value.slice.injEq] at he
  obtain ⟨rfl, rfl, rfl⟩ := he
  have hlen : (l.take k).length = k := by rw [List.length_take]; omega
  refine ⟨a, cap, by rw [hlen], by omega, h2, fun hl => ?_⟩
  obtain ⟨b, off, cur, pre, post, ha, hb, hc, hp⟩ := h3 (by rintro rfl; simp at hl)
  refine ⟨b, off, cur, pre, cellsOf (l.drop k) ++ post, ha, hb, ?_, hp⟩
  rw [hc, ← List.append_assoc (cellsOf _), ← cellsOf_append, List.take_append_drop]
set_option maxHeartbeats 1600000 in
theorem first_nil (v : Value) (w : World) :
    Calls Try.prog 11 #[v, .nilIface] w fun e w' => e = .returned (.int .i64 (-1)) ∧ w = w' := by
  go_enter Try.func11, Try.ntmps11
  go_wp2
  go_ret
  exact ⟨rfl, rfl⟩
set_option maxHeartbeats 3200000 in
theorem first_any (l : List Int) (v : Value) (tb : Nat) (kinds count n : Int) (w : World) (hT : TB w tb kinds count n) (h : CRow w v l) (hlen : l.length ≤ 1000) (hn0 : 0 ≤ n) (hn1 : n ≤ 10000000) :
    Calls Try.prog 11 #[v, .iface 24 (.pointer (some ⟨tb, 0, none⟩))] w fun e w' => e = .returned (.int .i64 (fst (hasB kinds count) l (l.length + 1) 0)) ∧ (∃ n', TB w' tb kinds count n') ∧ Kpt [tb] w.heap.size w w' := by
  obtain ⟨a, cap, rfl, hc1, hc2⟩ := h.ne
  obtain ⟨L, hL⟩ : ∃ L, L = l.length := ⟨_, rfl⟩
  have hL1 : L ≤ 1000 := by omega
  have hcL : L ≤ cap := by omega
  have hcm : cap ≤ 9223372036854775807 := by unfold maxLen at hc2; omega
  have HL : Hid (L = l.length) := hL
  have HT : Hid (TB w tb kinds count n) := hT
  rw [← hL] at h ⊢
  have HR : Hid (CRow w (.slice a L cap) l) := h
  have hme := meth_has ⟨tb, 0, none⟩
  have hni := nil_has ⟨tb, 0, none⟩
  clear hT h hL hc1 hc2 hlen
  go_enter Try.func11, Try.ntmps11
  go_wp2
  go_loopw [5, 11] (fun _ i wr => ∃ k : Nat, k ≤ L + 1 ∧ i = .int .i64 k ∧ fst (hasB kinds count) l (L + 1) 0 = fst (hasB kinds count) l (L + 1 - k) k ∧ (∃ q : Nat, q ≤ k ∧ TB wr tb kinds count (n + q)) ∧ Kpt [tb] w.heap.size w wr) (fun _ i _ => L + 1 - (intOf i).toNat)
  case atStart => exact ⟨0, by omega, rfl, rfl, ⟨0, by omega, by simpa using HT.out⟩, ⟨rfl, rfl, rfl, Nat.le_refl _, fun _ _ _ => rfl⟩⟩
  case round =>
    obtain ⟨k, hk, rfl, he, ⟨q, hq, ht⟩, hkpt⟩ := hrel
    have HE : Hid (fst (hasB kinds count) l (L + 1) 0 = fst (hasB kinds count) l (L + 1 - k) k) := he
    clear he
    by_cases hlt : k < L + 1
    · have hkc : (k : Int) ≤ (cap : Int) := by omega
      have hk0 : (0 : Int) ≤ (k : Int) := by omega
      have htl := lt_of_heap ht
      have HT2 : Hid (TB wr tb kinds count (n + q)) := ht
      have hrow : CRow wr (.slice a L cap) l := HR.out.kpt hkpt HT.out.ne
      have hrk : CRow wr (.slice a k cap) (l.take k) := hrow.take k (by have := HL.out; omega)
      have hlk : (l.take k).length ≤ 1000 := by rw [List.length_take]; omega
      clear ht hrow
      go_wp2
      go_region_held3 (fun _ => True) (exact trivial)
        (first
          | (go_at_call 13; refine (clone_any (l.take k) _ _ (hrk.below (below_drewN (Below.refl _ _) 1)) hlk).mono ?_; rintro e w2 ⟨v2, rfl, ho2, hb2⟩)
          | (go_at_call 12; refine (test_has (l.take k) v2 tb kinds count (n + q) w2 ((hb2.block tb htl).trans HT2.out) (CRow.of_own ho2) hlk (by omega) (by omega)).mono ?_; rintro e w3 ⟨rfl, ht3, hk3⟩))
      all_goals
        have hkk : Kpt [tb] w.heap.size w w3 := hkpt.trans (((Kpt.of ((below_drewN (Below.refl wr.heap.size wr) 1).trans hb2) [tb]).trans (hk3.mono hb2.size (fun _ hm _ => hm))).mono hkpt.size (fun _ hm _ => hm))
        have hfs : fst (hasB kinds count) l (L + 1 - k) k = if hasB kinds count (l.take k) then (k : Int) else fst (hasB kinds count) l (L + 1 - (k + 1)) (k + 1) := by
          rw [show L + 1 - k = (L + 1 - (k + 1)) + 1 by omega]; rfl
        have HF := hid2 hfs
        clear hfs hk3 hb2 ho2 hme hni
        go_wp2
        · rename_i hy
          go_ret
          exact ⟨ret_int (by rw [HE.out, HF.out, if_pos hy]), ⟨_, ht3⟩, hkk⟩
        · rename_i hy
          go_roundw
          case rel => exact ⟨k + 1, by omega, by go_num, by rw [HE.out, HF.out, if_neg (by simp [hy])], ⟨q + 1, by omega, by rw [show n + ((q + 1 : Nat) : Int) = n + q + 1 by omega]; exact ht3⟩, hkk⟩
          case measure => simp [intOf]; omega
    · go_wp2
      go_ret
      exact ⟨ret_int (by rw [HE.out, show L + 1 - k = 0 by omega]; rfl), ⟨_, ht⟩, hkpt⟩
end Go.Proofs.Ytfkgigkkolekeaa
