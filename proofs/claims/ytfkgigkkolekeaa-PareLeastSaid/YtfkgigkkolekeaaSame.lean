/- The walk of same. -/
import Derived.Test.YtfkgigkkolekeaaHas
import Derived.Deep.QuietTactic
import Derived.BigQuiet
import Derived.Laws.StructEq
import Derived.WalkSmall
namespace Go.Proofs.Ytfkgigkkolekeaa
open Go.RowKit
theorem eqAt (l m : List Int) (k : Nat) (x y : Int) (hx : l[k]? = some x) (hy : m[k]? = some y) (h : l.take k = m.take k) : l.take (k + 1) = m.take (k + 1) ↔ x = y := by
  rw [take_snoc' l k x hx, take_snoc' m k y hy, h]; simp
theorem Try.st42 : Try.prog.stoodInHeld 42 = false := by kernel_rfl
theorem Try.eq40 (w : World) : (Op.equalIn 9999 40 (.agg #[.int .i64 0, .int .i64 0, .int .i64 0, .int .i64 0]) (.agg #[.int .i64 0, .int .i64 0, .int .i64 0, .int .i64 0])).run Try.prog w = .ok true w := by kernel_rfl
theorem tick_neq (x y : Int) (w : World) : (binOp .neq 42 (.agg (tkc x).toArray) (.agg (tkc y).toArray)).run Try.prog w = .ok (.bool (!(x == y))) w := by
  have h40 := Try.eq40
  have st := Try.st42
  simp [tkc, go_sem]
  by_cases h : x = y
  · simp [h, h40]
  · simp [h]
set_option maxHeartbeats 1600000 in
set_option maxRecDepth 100000 in
theorem same_any (l m : List Int) (v u : Value) (w : World) (h : CRow w v l) (hu : IRow w u m) (hlen : l.length ≤ 1000) :
    Calls Try.prog 9 #[v, u] w fun e w' => e = .returned (.bool (decide (l = m))) ∧ Below w.heap.size w w' := by
  obtain ⟨a, cap, rfl, h1, h2, hc⟩ := h
  obtain ⟨au, capu, rfl, h1', h2', hcu⟩ := hu
  have hm : m.length ≤ 9223372036854775807 := by unfold maxLen at h2'; omega
  clear h1 h2 h1' h2'
  by_cases hlm : l.length = m.length
  · obtain ⟨n, hn⟩ : ∃ n, l.length = n := ⟨_, rfl⟩
    have hnm : m.length = n := by omega
    have HN : Hid (l.length = n) := hn
    have HM : Hid (m.length = n) := hnm
    rw [hnm] at hcu hm
    rw [hn] at hlen
    rw [hnm, hn]
    clear hn hnm hlm
    go_enter Try.func9, Try.ntmps9
    go_wp2
    go_loopw [5] (fun i wr => ∃ k : Nat, k ≤ n ∧ i = .int .i64 k ∧ l.take k = m.take k ∧ ∃ q, wr = w.drewN q) (fun i _ => n - (intOf i).toNat)
    case atStart => exact ⟨0, Nat.zero_le _, rfl, rfl, 0, rfl⟩
    case round =>
      obtain ⟨k, hk, rfl, ht, q, hw⟩ := hrel
      have HT : Hid (l.take k = m.take k) := ht
      clear ht
      by_cases hlt : k < n
      · obtain ⟨b, off, cur, pre, post, rfl, hb, hcur, hp⟩ := hc (by intro h; have := HN.out; rw [h] at this; simp at this; omega)
        obtain ⟨x, hx⟩ : ∃ x, l[k]? = some x := ⟨_, List.getElem?_eq_getElem (by rw [HN.out]; exact hlt)⟩
        obtain ⟨y, hy⟩ : ∃ y, m[k]? = some y := ⟨_, List.getElem?_eq_getElem (by rw [HM.out]; exact hlt)⟩
        obtain ⟨bu, offu, rfl, hcy⟩ := hcu k hlt
        have hgd : m.getD k 0 = y := by rw [List.getD_eq_getElem?_getD, hy]; rfl
        rw [hgd] at hcy
        have cc : ∀ i z, (tkc x)[i]? = some z → w.cell? ⟨b, off + k * 15 + i, none⟩ = some z := fun i z hz => by
          have := crow_cell hb hcur hp hx hz
          rwa [← Nat.add_assoc] at this
        have HE : Hid (l.take (k + 1) = m.take (k + 1) ↔ x = y) := eqAt l m k x y hx hy HT.out
        have c0 : w.cell? ⟨b, off + k * 15, none⟩ = _ := cc 0 _ rfl
        have c1 := cc 1 _ rfl
        have c2 := cc 2 _ rfl
        have c3 := cc 3 _ rfl
        have c4 := cc 4 _ rfl
        have c5 := cc 5 _ rfl
        have c6 := cc 6 _ rfl
        have c7 := cc 7 _ rfl
        have c8 := cc 8 _ rfl
        have c9 := cc 9 _ rfl
        have c10 := cc 10 _ rfl
        have c11 := cc 11 _ rfl
        have c12 := cc 12 _ rfl
        have c13 := cc 13 _ rfl
        have c14 := cc 14 _ rfl
        clear hc hcu hb hcur hp hx hy hgd cc
        subst hw
        go_wp2
        have hne : ∀ W : World, (binOp .neq 42 (.agg #[.int .i64 18, .int .i64 0, .int .i64 0, .int .i64 0, .int .i64 0, .int .i64 0, .int .i64 x, .int .i64 0, .int .i64 0, .int .i64 0, .int .i64 0, .int .i64 0, .int .i64 0, .int .i64 0, .bool false]) (.agg #[.int .i64 18, .int .i64 0, .int .i64 0, .int .i64 0, .int .i64 0, .int .i64 0, .int .i64 y, .int .i64 0, .int .i64 0, .int .i64 0, .int .i64 0, .int .i64 0, .int .i64 0, .int .i64 0, .bool false])).run Try.prog W = .ok (.bool (!(x == y))) W := tick_neq x y
        go_quiet (fail)
        clear c0 c1 c2 c3 c4 c5 c6 c7 c8 c9 c10 c11 c12 c13 c14 hcy hne
        go_wp2
        · rename_i hb
          have hb' : ¬ x = y := by simpa using hb
          go_ret
          exact ⟨ret_bool (by rw [decide_eq_false]; intro h; exact hb' (HE.out.1 (by rw [h]))), below_drewN (below_drewN (Below.refl _ _) _) _⟩
        · rename_i hb
          have hb' : x = y := by simpa using hb
          have HX : Hid (x = y) := hb'
          clear hb' hb
          go_roundw
          case rel => exact ⟨k + 1, by omega, by go_num, HE.out.2 HX.out, _, rfl⟩
          case measure => simp [intOf]; omega
      · go_wp2
        go_ret
        exact ⟨ret_bool (by rw [decide_eq_true]; have := HT.out; rwa [List.take_of_length_le (by have := HN.out; omega), List.take_of_length_le (by have := HM.out; omega)] at this), below_drewN (Below.refl _ _) _⟩
  · have hb2 : ((l.length : Int) != (m.length : Int)) = true := by simp; omega
    have HL : Hid (¬ l.length = m.length) := hlm
    clear hlm hc hcu
    go_enter Try.func9, Try.ntmps9
    go_wp2
    go_ret
    exact ⟨ret_bool (by rw [decide_eq_false]; intro h; exact HL.out (by rw [h])), Below.refl _ _⟩
end Go.Proofs.Ytfkgigkkolekeaa
