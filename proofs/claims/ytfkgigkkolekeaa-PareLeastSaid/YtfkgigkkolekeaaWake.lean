/- The walk of awake. -/
import Derived.Test.YtfkgigkkolekeaaFirst
import Derived.Test.YtfkgigkkolekeaaRef
namespace Go.Proofs.Ytfkgigkkolekeaa
open Go.RowKit
theorem irow_alloc (w : World) (l : List Int) (n : Nat) (hn : l.length = n) (hl : n ≤ maxLen) : IRow (w.alloc (.cells (l.map (Value.int .i64)).toArray 3)) (.slice (some ⟨w.heap.size, 0, none⟩) n n) l := by
  refine ⟨_, n, by rw [hn], by omega, hl, fun j hj => ⟨w.heap.size, 0, rfl, ?_⟩⟩
  rw [World.cell?_alloc_at _ _ _ _ rfl]
  simp [hj]
theorem down_ex : down (hasB 32 2) [5, 1, 5, 2, 5] = ([5, 5], 8) := by kernel_rfl
theorem fst_ex : fst (hasB 32 2) [5, 1, 5, 2, 5] 6 0 = 3 := by kernel_rfl
set_option maxHeartbeats 3200000 in
theorem awake_any (w : World) : Calls Try.prog 5 #[] w fun e w' => e = .returned (.bool true) ∧ Below w.heap.size w w' := by
  obtain ⟨W1, hW1⟩ : ∃ W1, W1 = w.alloc (.cells #[.int .i64 32, .int .i64 2, .int .i64 0] 26) := ⟨_, rfl⟩
  have HW1 := hid2 hW1
  have hT1 : TB W1 w.heap.size 32 2 0 := by rw [hW1]; exact heap_alloc_new w _
  have hb1 : Below w.heap.size w W1 := by rw [hW1]; exact (Below.refl _ _).alloc (Nat.le_refl _) _
  have hs1 : w.heap.size < W1.heap.size := lt_of_heap hT1
  obtain ⟨W2, hW2⟩ : ∃ W2, W2 = W1.alloc (.cells #[.int .i64 5, .int .i64 1, .int .i64 5, .int .i64 2, .int .i64 5] 3) := ⟨_, rfl⟩
  have HW2 := hid2 hW2
  have hr2 : IRow W2 (.slice (some ⟨W1.heap.size, 0, none⟩) 5 5) [5, 1, 5, 2, 5] := by rw [hW2]; exact irow_alloc W1 [5, 1, 5, 2, 5] 5 rfl (by decide)
  have hb2 : Below W1.heap.size W1 W2 := by rw [hW2]; exact (Below.refl _ _).alloc (Nat.le_refl _) _
  have hsz : W1.heap.size = w.heap.size + 1 := by rw [hW1]; simp
  rw [hsz] at hr2
  have hT2 : TB W2 w.heap.size 32 2 0 := (hb2.block _ hs1).trans hT1
  have hbb : Below w.heap.size w W2 := hb1.trans (hb2.mono (by omega))
  have hlt : w.heap.size < W2.heap.size := lt_of_heap hT2
  clear hW1 hW2 hT1 hb1 hs1 hb2 hsz
  go_enter Try.func5, Try.ntmps5
  go_wp2_with fail
  rw [← HW1.out, ← HW2.out]
  clear HW1 HW2
  generalize w.heap.size + 1 = sb at hr2 ⊢
  refine (ticks_any _ _ W2 hr2 (by decide)).mono ?_
  rintro e W3 ⟨v3, rfl, hr3, hb3⟩
  have hT3 : TB W3 w.heap.size 32 2 0 := (hb3.block _ hlt).trans hT2
  have hb3' := hbb.trans (hb3.mono (Nat.le_of_lt hlt))
  clear hr2 hb3 hT2 hbb hlt
  go_wp2_with fail
  refine (down_any _ _ w.heap.size 32 2 0 W3 hT3 hr3 (by decide) (by decide) (by decide)).mono ?_
  rintro e W4 ⟨v4, rfl, hr4, hT4, hk4⟩
  rw [down_ex] at hr4 hT4 ⊢
  have hr34 := hr3.kpt hk4 hT3.ne
  have hb4 := hb3'.trans (hk4.below hb3'.size (by simp))
  clear hr3 hT3 hk4 hb3'
  go_wp2_with fail
  refine (down_nil _ _ W4 hr34 (by decide)).mono ?_
  rintro e W5 ⟨v5, rfl, hr5, hb5⟩
  have hr35 := hr34.below hb5
  have hr45 := hr4.below hb5
  have hT5 := (hb5.block _ (lt_of_heap hT4)).trans hT4
  have hb5' := hb4.trans (hb5.mono hb4.size)
  clear hr34 hr4 hT4 hb5 hb4 hr5
  obtain ⟨W6, hW6⟩ : ∃ W6, W6 = W5.alloc (.cells #[.int .i64 5, .int .i64 5] 3) := ⟨_, rfl⟩
  have HW6 := hid2 hW6
  have hu6 : IRow W6 (.slice (some ⟨W5.heap.size, 0, none⟩) 2 2) [5, 5] := by rw [hW6]; exact irow_alloc W5 [5, 5] 2 rfl (by decide)
  have hb6 : Below W5.heap.size W5 W6 := by rw [hW6]; exact (Below.refl _ _).alloc (Nat.le_refl _) _
  have hr36 := hr35.below hb6
  have hr46 := hr45.below hb6
  have hT6 := (hb6.block _ (lt_of_heap hT5)).trans hT5
  have hb6' := hb5'.trans (hb6.mono hb5'.size)
  clear hr35 hr45 hT5 hb6 hb5' hW6
  go_wp2_with fail
  rw [← HW6.out]
  clear HW6
  refine (same_any [5, 5] [5, 5] _ _ W6 hr46 hu6 (by decide)).mono ?_
  rintro e W7 ⟨rfl, hb7⟩
  have hr37 := hr36.below hb7
  have hT7 : W7.heap[w.heap.size]? = _ := (hb7.block _ (lt_of_heap hT6)).trans hT6
  have hb7' := hb6'.trans (hb7.mono hb6'.size)
  have c7 : W7.cell? ⟨w.heap.size, 2, none⟩ = some (.int .i64 8) := cell_of_heap hT7
  have hT7' := hid2 hT7
  clear hr36 hT6 hb7 hb6' hu6 hr46 hT7
  rw [show decide (([5, 5] : List Int) = [5, 5]) = true from rfl]
  go_wp2_with fail
  refine (first_any _ _ w.heap.size 32 2 8 W7 hT7'.out hr37 (by decide) (by decide) (by decide)).mono ?_
  rintro e W8 ⟨rfl, hT8, hk8⟩
  have hb8 := hb7'.trans (hk8.below hb7'.size (by simp))
  clear hT7' hr37 hk8 hb7' c7 hT8
  rw [show fst (hasB 32 2) [5, 1, 5, 2, 5] (([5, 1, 5, 2, 5] : List Int).length + 1) 0 = 3 from fst_ex]
  go_wp2_with (go_at_call 11; refine (first_nil _ W8).mono ?_; rintro e W9 ⟨rfl, rfl⟩)
  go_ret
  exact ⟨rfl, hb8⟩
end Go.Proofs.Ytfkgigkkolekeaa
