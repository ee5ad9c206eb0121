/- The walk of PareExact. -/
import Derived.Test.YtfkgigkkolekeaaWake
namespace Go.Proofs.Ytfkgigkkolekeaa
open Go.RowKit
set_option maxHeartbeats 3200000 in
theorem exact_long (l : List Int) (v : Value) (kinds count : Int) (w : World) (h : IRow w v l) (hlen : ¬ l.length ≤ 30) :
    Calls Try.prog 3 #[v, .int .i64 kinds, .int .i64 count] w fun e w' => e = .returned (.bool true) ∧ Below w.heap.size w w' := by
  obtain ⟨a, cap, rfl, h1, h2, _⟩ := h
  have hm : l.length ≤ 9223372036854775807 := by unfold maxLen at h2; omega
  have hgt : (30 : Int) < (l.length : Int) := by omega
  clear h1 h2
  go_enter Try.func3, Try.ntmps3
  go_wp2_with (go_at_call 5; refine (awake_any w).mono ?_; rintro e w1 ⟨rfl, hb1⟩)
  go_ret
  exact ⟨rfl, hb1⟩
theorem ref_any (l : List Int) (v : Value) (kinds count : Int) (w : World) (h : IRow w v l) (hlen : l.length ≤ 1000) :
    Calls Try.prog 8 #[v, .int .i64 kinds, .int .i64 count] w fun e w' => ∃ v', e = .returned (.tuple #[v', .int .i64 (down (hasB kinds count) l).2]) ∧ IRow w' v' (down (hasB kinds count) l).1 ∧ Below w.heap.size w w' := by
  cases hy : hasB kinds count l with
  | true => exact ref_yes l v kinds count w h hlen hy
  | false =>
    have e : down (hasB kinds count) l = (l, 1) := by unfold down; rw [hy]; rfl
    rw [e]
    exact (ref_no l v kinds count w h hy).mono fun e w' ⟨he, hw⟩ => ⟨v, he, by rw [← hw]; exact h, by rw [← hw]; exact Below.refl _ _⟩
theorem IRow.take {w : World} {a : Option Addr} {n cap : Nat} {l : List Int} (h : IRow w (.slice a n cap) l) (k : Nat) (hk : k ≤ l.length) : IRow w (.slice a k cap) (l.take k) := by
  obtain ⟨a', cap', he, h1, h2, h3⟩ := h
  simp only [Value.slice.injEq] at he
  obtain ⟨rfl, rfl, rfl⟩ := he
  have hlen : (l.take k).length = k := by rw [List.length_take]; omega
  refine ⟨a, cap, by rw [hlen], by omega, h2, fun j hj => ?_⟩
  obtain ⟨b, off, ha, hc⟩ := h3 j (by omega)
  refine ⟨b, off, ha, ?_⟩
  rw [hc, List.getD_eq_getElem?_getD, List.getD_eq_getElem?_getD, List.getElem?_take, if_pos (by omega)]
theorem fst_rng (h : List Int → Bool) (l : List Int) : ∀ d k, fst h l d k = -1 ∨ ((k : Int) ≤ fst h l d k ∧ fst h l d k < (k : Int) + d)
  | 0, k => .inl rfl
  | d + 1, k => by
    unfold fst
    split
    · exact .inr ⟨Int.le_refl _, by omega⟩
    · rcases fst_rng h l d (k + 1) with h | h
      · exact .inl h
      · exact .inr (by omega)
theorem dwn_len (h : List Int → Bool) : ∀ f l, (dwn h f l).1.length ≤ l.length
  | 0, l => by simp [dwn]
  | f + 1, l => by
    have hr := rnd_len h l.length l (Nat.le_refl _)
    have ih := dwn_len h f (rnd h l.length l).1
    unfold dwn
    split <;> simp <;> omega
theorem down_len (h : List Int → Bool) (l : List Int) : (down h l).1.length ≤ l.length := by
  unfold down
  split
  · exact dwn_len h _ l
  · exact Nat.le_refl _
theorem down_ask (h : List Int → Bool) (l : List Int) (hl : l.length ≤ 1000) : (down h l).2 ≤ 2000000 := by
  have h1 := dwn_le h 1000 (l.length + 1) l hl
  have h2 : (l.length + 1) * 1000 ≤ 1001 * 1000 := Nat.mul_le_mul_right _ (by omega)
  unfold down
  split <;> simp <;> omega
/-- The law's own search: where it stands. -/
def FS (h : List Int → Bool) (l : List Int) (n k : Nat) (F : Int) : Prop :=
  (F = -1 ∧ fst h l (n + 1) 0 = fst h l (n + 1 - k) k) ∨ (0 ≤ F ∧ F = fst h l (n + 1) 0)
set_option maxHeartbeats 3200000 in
theorem exact_short (l : List Int) (v : Value) (kinds count : Int) (w : World) (h : IRow w v l) (hlen : l.length ≤ 30) :
    Calls Try.prog 3 #[v, .int .i64 kinds, .int .i64 count] w fun e w' => e = .returned (.bool true) ∧ Below w.heap.size w w' := by
  obtain ⟨a, cap, hv, h1, h2⟩ : ∃ a cap, v = .slice a l.length cap ∧ l.length ≤ cap ∧ cap ≤ maxLen := by
    obtain ⟨a, cap, hv, h1, h2, _⟩ := h
    exact ⟨a, cap, hv, h1, h2⟩
  subst hv
  generalize hn : l.length = n at *
  have HN := hid2 hn
  clear hn
  go_enter Try.func3, Try.ntmps3
  go_wp2_with (go_at_call 5; refine (awake_any w).mono ?_; rintro e W1 ⟨rfl, hb1⟩)
  obtain ⟨tb, htb⟩ : ∃ tb, tb = W1.heap.size := ⟨_, rfl⟩
  rw [← htb]
  obtain ⟨W2, hW2⟩ : ∃ W2, W2 = W1.alloc (.cells #[.int .i64 kinds, .int .i64 count, .int .i64 0] 26) := ⟨_, rfl⟩
  rw [← hW2]
  have hT2 : TB W2 tb kinds count 0 := by rw [htb, hW2]; exact heap_alloc_new W1 _
  have hb2 : Below w.heap.size w W2 := by rw [hW2]; exact hb1.alloc hb1.size _
  have htw : w.heap.size ≤ tb := by rw [htb]; exact hb1.size
  have hl30 : l.length ≤ 1000 := by rw [HN.out]; omega
  clear hW2 htb hb1
  refine (ticks_any l _ W2 (h.below hb2) hl30).mono ?_
  rintro e W3 ⟨v3, rfl, hr3, hb3⟩
  have hT3 := (hb3.block _ (lt_of_heap hT2)).trans hT2
  have hbb3 := hb2.trans (hb3.mono hb2.size)
  clear hT2 hb2 hb3
  go_wp2_with fail
  refine (down_any l v3 tb kinds count 0 W3 hT3 hr3 hl30 (by decide) (by decide)).mono ?_
  rintro e W4 ⟨v4, rfl, hr4, hT4, hk4⟩
  have hbb4 := hbb3.trans (hk4.below hbb3.size (by simpa using htw))
  clear hT3 hr3 hk4 hbb3
  rw [Int.zero_add] at hT4
  generalize hD : (down (hasB kinds count) l).2 = D at hT4 ⊢
  have hDle : D ≤ 2000000 := by rw [← hD]; exact down_ask _ l hl30
  have HD := hid2 hD
  clear hD
  go_wp2_with fail
  refine (ref_any l _ kinds count W4 (h.below hbb4) hl30).mono ?_
  rintro e W5 ⟨v5, rfl, hr5, hb5⟩
  rw [HD.out]
  have hr45 := hr4.below hb5
  have hT5 := (hb5.block _ (lt_of_heap hT4)).trans hT4
  have hbb5 := hbb4.trans (hb5.mono hbb4.size)
  clear hr4 hT4 hb5 hbb4
  have hld : (down (hasB kinds count) l).1.length ≤ 1000 := Nat.le_trans (down_len _ _) hl30
  go_wp2_with fail
  refine (same_any _ _ v4 v5 W5 hr45 hr5 hld).mono ?_
  rintro e W6 ⟨rfl, hb6⟩
  have hT6 := (hb6.block _ (lt_of_heap hT5)).trans hT5
  have hbb6 := hbb5.trans (hb6.mono hbb5.size)
  have c6 : W6.cell? ⟨tb, 2, none⟩ = some (.int .i64 D) := cell_of_heap hT6
  rw [decide_eq_true (rfl : (down (hasB kinds count) l).1 = (down (hasB kinds count) l).1)]
  clear hr45 hr5 hT5 hb6 hbb5
  have HT6 := hid2 hT6
  have HI := hid2 (h.below hbb6)
  clear hT6 h
  go_wp2_with fail
  go_loop [12, 13] (fun f i => ∃ (k : Nat) (F : Int), k ≤ n + 1 ∧ i = .int .i64 k ∧ f = .int .i64 F ∧ FS (hasB kinds count) l n k F) (fun _ i => n + 1 - (intOf i).toNat)
  case atStart => exact ⟨0, -1, by omega, rfl, rfl, .inl ⟨rfl, rfl⟩⟩
  case round =>
    obtain ⟨k, F, hk, rfl, rfl, hF⟩ := hrel
    have hmain : ∀ F : Int, F = fst (hasB kinds count) l (n + 1) 0 → True := fun _ _ => trivial
    by_cases hgo : k < n + 1 ∧ F = -1
    · obtain ⟨hlt, rfl⟩ := hgo
      have hfs : fst (hasB kinds count) l (n + 1) 0 = if hasB kinds count (l.take k) then (k : Int) else fst (hasB kinds count) l (n + 1 - (k + 1)) (k + 1) := by
        rcases hF with ⟨_, h⟩ | ⟨h, _⟩
        · rw [h, show n + 1 - k = (n + 1 - (k + 1)) + 1 by omega]; rfl
        · omega
      have HF := hid2 hfs
      have hkc : (k : Int) ≤ (cap : Int) := by omega
      have hk0 : (0 : Int) ≤ (k : Int) := by omega
      have hrk := HI.out.take k (by rw [HN.out]; omega)
      clear hfs hF hmain
      go_wp2_with (go_at_call 10; refine (has_any (l.take k) _ kinds count W6 hrk).mono ?_; rintro e w3 ⟨rfl, rfl⟩)
      · rename_i hy
        go_round
        case rel => exact ⟨k + 1, k, by omega, by go_num, rfl, .inr ⟨by omega, by rw [HF.out, if_pos hy]⟩⟩
        case measure => simp [intOf]; omega
      · rename_i hy
        go_round
        case rel => exact ⟨k + 1, -1, by omega, by go_num, rfl, .inl ⟨rfl, by rw [HF.out, if_neg (by simp [hy])]⟩⟩
        case measure => simp [intOf]; omega
    · have hFe : F = fst (hasB kinds count) l (n + 1) 0 := by
        rcases hF with ⟨hm, h⟩ | ⟨_, h⟩
        · have : k = n + 1 := by omega
          rw [h, hm, this, Nat.sub_self]; rfl
        · exact h
      have hex : (k : Int) ≤ (n : Int) → ¬ F < 0 := by
        intro h1 h2
        rcases hF with ⟨hm, _⟩ | ⟨h3, _⟩ <;> omega
      have HFe := hid2 hFe
      have hex' : (k : Int) ≤ (n : Int) → 0 ≤ F := fun h1 => by have := hex h1; omega
      clear hFe hF hgo hex hmain
      have fin : Calls Try.prog 7 #[.slice a n cap] W6 fun e W8 => ∃ v8, e = .returned v8 ∧ CRow W8 v8 l ∧ TB W8 tb kinds count D ∧ Below w.heap.size w W8 := (ticks_any l _ W6 HI.out hl30).mono fun e W8 ⟨v8, he, hr, hb⟩ =>
        ⟨v8, he, hr, (hb.block _ (lt_of_heap HT6.out)).trans HT6.out, hbb6.trans (hb.mono hbb6.size)⟩
      have fst' : ∀ (W8 : World) (v8 : Value), CRow W8 v8 l → TB W8 tb kinds count D → Below w.heap.size w W8 → Calls Try.prog 11 #[v8, .iface 24 (.pointer (some ⟨tb, 0, none⟩))] W8 fun e w' => e = .returned (.int .i64 F) ∧ Below w.heap.size w w' := fun W8 v8 hr hT hb =>
        (first_any l v8 tb kinds count D W8 hT hr hl30 (by omega) (by omega)).mono fun e w' ⟨he, _, hk⟩ => ⟨by rw [he, HFe.out, HN.out], hb.trans (hk.below hb.size (by simpa using htw))⟩
      by_cases hkn : (k : Int) ≤ (n : Int)
      · have h0 := hex' hkn
        clear hex'
        go_wp2_with (first
          | (go_at_call 7; refine fin.mono ?_; rintro e W8 ⟨v8, rfl, hr8, hT8, hb8⟩)
          | (go_at_call 11; refine (fst' _ _ hr8 hT8 hb8).mono ?_; rintro e W9 ⟨rfl, hb9⟩))
        go_ret
        exact ⟨rfl, hb9⟩
      · clear hex'
        go_wp2_with (first
          | (go_at_call 7; refine fin.mono ?_; rintro e W8 ⟨v8, rfl, hr8, hT8, hb8⟩)
          | (go_at_call 11; refine (fst' _ _ hr8 hT8 hb8).mono ?_; rintro e W9 ⟨rfl, hb9⟩))
        go_ret
        exact ⟨rfl, hb9⟩
end Go.Proofs.Ytfkgigkkolekeaa
