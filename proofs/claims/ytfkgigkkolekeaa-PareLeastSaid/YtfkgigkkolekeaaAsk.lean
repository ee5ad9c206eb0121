/- The walks of (*test).Has and (*parer).has. -/
import Derived.Test.YtfkgigkkolekeaaSame
import Derived.Test.YtfkgigkkolekeaaDel
import Derived.Deep.RegionHeld3
namespace Go.Proofs.Ytfkgigkkolekeaa
open Go.RowKit
theorem cell_of_heap {w : World} {b o : Nat} {cur : Array Value} {t : TypeId} {fr : Nat × Nat} (h : w.heap[b]? = some (Obj.cells cur t fr)) : w.cell? ⟨b, o, none⟩ = cur[o]? := by
  simp [World.cell?, h]
theorem frozen_of_heap {w : World} {b o : Nat} {cur : Array Value} {t : TypeId} (h : w.heap[b]? = some (Obj.cells cur t (0, 0))) : w.frozen? ⟨b, o, none⟩ = false := by
  simp [World.frozen?, h]
theorem heap_setCell {w : World} {b o : Nat} {cur : Array Value} {t : TypeId} {fr : Nat × Nat} {u : Value} (h : w.heap[b]? = some (Obj.cells cur t fr)) : (w.setCell ⟨b, o, none⟩ u).heap[b]? = some (Obj.cells (cur.setIfInBounds o u) t fr) := by
  simp [World.setCell, Array.getElem?_modify, h]
theorem Kpt.setCell (w : World) (b o : Nat) (u : Value) : Kpt [b] w.heap.size w (w.setCell ⟨b, o, none⟩ u) :=
  ⟨rfl, rfl, rfl, by simp [World.setCell], fun k _ hs => Below.heap_setCell _ _ _ _ (by simpa using hs)⟩
theorem CRow.kpt {S : List Nat} {w w' : World} {v : Value} {l : List Int} (h : CRow w v l) (hk : Kpt S w.heap.size w w') (hS : ∀ b ∈ S, ∀ cur fr, w.heap[b]? ≠ some (Obj.cells cur 42 fr)) : CRow w' v l :=
  h.keep fun b cur hb => hk.block b (lt_of_heap hb) (fun hm => hS b hm cur (0, 0) hb)
theorem TB.ne {w : World} {tb : Nat} {kinds count n : Int} (h : TB w tb kinds count n) : ∀ b ∈ [tb], ∀ cur fr, w.heap[b]? ≠ some (Obj.cells cur 42 fr) := by
  intro b hb cur fr he
  simp at hb; subst hb
  unfold TB at h
  rw [h] at he; simp at he
set_option maxHeartbeats 1600000 in
theorem test_has (l : List Int) (v : Value) (tb : Nat) (kinds count n : Int) (w : World) (hT : TB w tb kinds count n) (h : CRow w v l) (hlen : l.length ≤ 1000) (hn0 : 0 ≤ n) (hn1 : n ≤ 1000000000) :
    Calls Try.prog 12 #[.pointer (some ⟨tb, 0, none⟩), v] w fun e w' => e = .returned (.bool (hasB kinds count l)) ∧ TB w' tb kinds count (n + 1) ∧ Kpt [tb] w.heap.size w w' := by
  have c2 : w.cell? ⟨tb, 2, none⟩ = some (.int .i64 n) := cell_of_heap hT
  have f2 : w.frozen? ⟨tb, 2, none⟩ = false := frozen_of_heap hT
  obtain ⟨W1, hW1⟩ : ∃ W1, W1 = w.setCell ⟨tb, 2, none⟩ (.int .i64 (n + 1)) := ⟨_, rfl⟩
  have hT1 : TB W1 tb kinds count (n + 1) := by rw [hW1]; exact heap_setCell hT
  have hK1 : Kpt [tb] w.heap.size w W1 := by rw [hW1]; exact Kpt.setCell w tb 2 _
  have hR1 : CRow W1 v l := h.kpt hK1 hT.ne
  have HW : Hid (W1 = w.setCell ⟨tb, 2, none⟩ (.int .i64 (n + 1))) := hW1
  have d0 : W1.cell? ⟨tb, 0, none⟩ = some (.int .i64 kinds) := cell_of_heap hT1
  have d1 : W1.cell? ⟨tb, 1, none⟩ = some (.int .i64 count) := cell_of_heap hT1
  have ht : tb < W1.heap.size := lt_of_heap hT1
  have HS : Hid (W1.heap.size = w.heap.size) := by unfold Hid; rw [hW1]; simp [World.setCell]
  have HT1 : Hid (TB W1 tb kinds count (n + 1)) := hT1
  clear hT hT1 hW1 h
  go_enter Try.func12, Try.ntmps12
  go_wp2
  rw [← HW.out]
  go_region_held3 (fun w' => w'.cell? ⟨tb, 0, none⟩ = some (.int .i64 kinds) ∧ w'.cell? ⟨tb, 1, none⟩ = some (.int .i64 count))
    (go_keep)
    (first
      | (go_at_call 16; refine (ns_any l v _ (hR1.below (below_drewN (Below.refl _ _) _)) hlen).mono ?_; rintro e w2 ⟨v2, rfl, hr2, hb2⟩; have q0 := (hb2.cell (p := ⟨tb, 0, none⟩) ht).trans d0; have q1 := (hb2.cell (p := ⟨tb, 1, none⟩) ht).trans d1)
      | (go_at_call 10; refine (has_any l _ kinds count _ hr2).mono ?_; rintro e w3 ⟨rfl, rfl⟩))
  go_wp2
  go_ret
  have hS := HS.out
  refine ⟨rfl, ?_, hK1.trans ((Kpt.of ((below_drewN (Below.refl W1.heap.size W1) 1).trans hb2) [tb]).mono (Nat.le_of_eq hS.symm) (fun k hk _ => hk))⟩
  exact (hb2.block tb ht).trans HT1.out
theorem PB.ne {w : World} {pb tb : Nat} {n : Int} (h : PB w pb tb n) : ∀ b ∈ [pb], ∀ cur fr, w.heap[b]? ≠ some (Obj.cells cur 42 fr) := by
  intro b hb cur fr he
  simp at hb; subst hb
  unfold PB at h
  rw [h] at he; simp at he
theorem meth_has (a : Addr) (w : World) : (method 171 24 (.pointer (some a)) "Has").run Try.prog w = .ok (12, .pointer (some a)) w := by kernel_rfl
theorem nil_has (a : Addr) (w : World) : (nilAhead 171 24 (.pointer (some a)) "Has").run Try.prog w = .ok (some false) w := by kernel_rfl
set_option maxHeartbeats 1600000 in
theorem parer_has (l : List Int) (v : Value) (pb tb : Nat) (kinds count n m : Int) (w : World) (hP : PB w pb tb m) (hT : TB w tb kinds count n) (h : CRow w v l) (hlen : l.length ≤ 1000) (hn0 : 0 ≤ n) (hn1 : n ≤ 1000000000) (hm0 : 0 ≤ m) (hm1 : m ≤ 1000000000) :
    Calls Try.prog 14 #[.pointer (some ⟨pb, 0, none⟩), v] w fun e w' => e = .returned (.bool (hasB kinds count l)) ∧ PB w' pb tb (m + 1) ∧ TB w' tb kinds count (n + 1) ∧ Kpt [pb, tb] w.heap.size w w' := by
  have c2 : w.cell? ⟨pb, 1, none⟩ = some (.int .i64 m) := cell_of_heap hP
  have c0 : w.cell? ⟨pb, 0, none⟩ = some (.iface 24 (.pointer (some ⟨tb, 0, none⟩))) := cell_of_heap hP
  have f2 : w.frozen? ⟨pb, 1, none⟩ = false := frozen_of_heap hP
  have hpt : tb ≠ pb := by rintro rfl; unfold PB TB at *; rw [hP] at hT; simp at hT
  obtain ⟨W1, hW1⟩ : ∃ W1, W1 = w.setCell ⟨pb, 1, none⟩ (.int .i64 (m + 1)) := ⟨_, rfl⟩
  have hP1 : PB W1 pb tb (m + 1) := by rw [hW1]; exact heap_setCell hP
  have hK1 : Kpt [pb] w.heap.size w W1 := by rw [hW1]; exact Kpt.setCell w pb 1 _
  have hT1 : TB W1 tb kinds count n := (hK1.block tb (lt_of_heap hT) (by simpa using hpt)).trans hT
  have hR1 : CRow W1 v l := h.kpt hK1 hP.ne
  have HW : Hid (W1 = w.setCell ⟨pb, 1, none⟩ (.int .i64 (m + 1))) := hW1
  have d0 : W1.cell? ⟨pb, 0, none⟩ = some (.iface 24 (.pointer (some ⟨tb, 0, none⟩))) := cell_of_heap hP1
  have HS : Hid (W1.heap.size = w.heap.size) := by unfold Hid; rw [hW1]; simp [World.setCell]
  have HP1 : Hid (PB W1 pb tb (m + 1)) := hP1
  have HT1 : Hid (TB W1 tb kinds count n) := hT1
  have HPT : Hid (tb ≠ pb) := hpt
  clear hT hT1 hP hP1 hW1 h hpt
  have hme := meth_has ⟨tb, 0, none⟩
  go_enter Try.func14, Try.ntmps14
  go_wp2_with fail
  rw [← HW.out]
  go_wp2_with (go_at_call 12; refine (test_has l v tb kinds count n W1 HT1.out hR1 hlen hn0 hn1).mono ?_; rintro e w2 ⟨rfl, hT2, hK2⟩)
  go_ret
  have hS := HS.out
  have hPb := HP1.out
  rw [hS] at hK2
  refine ⟨rfl, ?_, hT2, (hK1.mono (Nat.le_refl _) (fun k hk _ => by simp at hk; simp [hk])).trans (hK2.mono (Nat.le_refl _) (fun k hk _ => by simp at hk; simp [hk]))⟩
  exact (hK2.block pb (by rw [← hS]; exact lt_of_heap hPb) (by simpa using HPT.out.symm)).trans hPb
end Go.Proofs.Ytfkgigkkolekeaa
