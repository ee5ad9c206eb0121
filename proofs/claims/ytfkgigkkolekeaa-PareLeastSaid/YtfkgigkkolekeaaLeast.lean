/- The walk of PareLeast. -/
import Derived.Test.YtfkgigkkolekeaaExact
import Derived.Test.YtfkgigkkolekeaaPlain
namespace Go.Proofs.Ytfkgigkkolekeaa
open Go.RowKit
theorem tick_eql (x y : Int) (w : World) : (binOp .eql 42 (.agg (tkc x).toArray) (.agg (tkc y).toArray)).run Try.prog w = .ok (.bool (x == y)) w := by
  have h40 := Try.eq40
  have st := Try.st42
  simp [tkc, go_sem]
  by_cases h : x = y
  · simp [h, h40]
  · simp [h]
theorem cnews {w : World} {b off : Nat} {cur : Array Value} {pre post : List Value} {l : List Int} (hb : w.heap[b]? = some (Obj.cells cur 42 (0, 0))) (hc : cur.toList = pre ++ (cellsOf l ++ post)) (hp : pre.length = off) (k : Nat) (hk : k ≤ l.length) :
    (∀ j u, (cellsOf (l.take k))[j]? = some u → w.cell? ((⟨b, off, none⟩ : Addr).add j) = some u) ∧ (∀ j u, (cellsOf (l.drop k))[j]? = some u → w.cell? ((⟨b, off + k * 15, none⟩ : Addr).add j) = some u) := by
  have key : ∀ j u, (cellsOf l)[j]? = some u → w.cell? ⟨b, off + j, none⟩ = some u := by
    intro j u hu
    have hj := (List.getElem?_eq_some_iff.1 hu).1
    rw [cell_of_heap hb, ← Array.getElem?_toList, hc, List.getElem?_append_right (by omega), hp, Nat.add_sub_cancel_left, List.getElem?_append_left hj, hu]
  refine ⟨fun j u hu => ?_, fun j u hu => ?_⟩
  · rw [Addr.add_lit]
    refine key j u ?_
    rw [← cellsOf_take l k hk, List.getElem?_take] at hu
    split at hu
    · exact hu
    · cases hu
  · rw [Addr.add_lit, Nat.add_assoc]
    refine key (k * 15 + j) u ?_
    rw [← cellsOf_drop l k hk, List.getElem?_drop] at hu
    exact hu
theorem erase_row {w : World} {base M k : Nat} {v : Value} {m : List Int} (hm : m.length = M) (hk : k < M) (h : w.ownsRow base 42 15 v (k + (M - (k + 1))) (cellsOf (m.take k) ++ cellsOf (m.drop (k + 1)))) : CRow w v (m.eraseIdx k) := by
  refine CRow.of_own (base := base) ?_
  rw [List.length_eraseIdx_of_lt (by omega), List.eraseIdx_eq_take_drop_succ, cellsOf_append, hm, show M - 1 = k + (M - (k + 1)) by omega]
  exact h
set_option maxHeartbeats 3200000 in
theorem least_long (l : List Int) (v : Value) (kinds count : Int) (w : World) (h : IRow w v l) (hlen : ¬ l.length ≤ 30) :
    Calls Try.prog 4 #[v, .int .i64 kinds, .int .i64 count] w fun e w' => e = .returned (.bool true) ∧ Below w.heap.size w w' := by
  obtain ⟨a, cap, rfl, h1, h2, _⟩ := h
  have hm : l.length ≤ 9223372036854775807 := by unfold maxLen at h2; omega
  have hgt : (30 : Int) < (l.length : Int) := by omega
  clear h1 h2
  go_enter Try.func4, Try.ntmps4
  go_wp2_with (go_at_call 5; refine (awake_any w).mono ?_; rintro e w1 ⟨rfl, hb1⟩)
  go_ret
  exact ⟨rfl, hb1⟩
set_option maxHeartbeats 3200000 in
theorem least_short (l : List Int) (v : Value) (kinds count : Int) (w : World) (h : IRow w v l) (hlen : l.length ≤ 30) :
    Calls Try.prog 4 #[v, .int .i64 kinds, .int .i64 count] w fun e w' => e = .returned (.bool true) ∧ Below w.heap.size w w' := by
  obtain ⟨a, cap, hv, h1, h2⟩ : ∃ a cap, v = .slice a l.length cap ∧ l.length ≤ cap ∧ cap ≤ maxLen := by
    obtain ⟨a, cap, hv, h1, h2, _⟩ := h
    exact ⟨a, cap, hv, h1, h2⟩
  subst hv
  obtain ⟨i0, hi, hz0, hz1, hz2⟩ := info_parts Try.info42
  generalize hn : l.length = n at *
  have HN := hid2 hn
  clear hn
  go_enter Try.func4, Try.ntmps4
  go_wp2_with (go_at_call 5; refine (awake_any w).mono ?_; rintro e W1 ⟨rfl, hb1⟩)
  obtain ⟨tb, htb⟩ : ∃ tb, tb = W1.heap.size := ⟨_, rfl⟩
  rw [← htb]
  obtain ⟨W2, hW2⟩ : ∃ W2, W2 = W1.alloc (.cells #[.int .i64 kinds, .int .i64 count, .int .i64 0] 26) := ⟨_, rfl⟩
  rw [← hW2]
  have hT2 : TB W2 tb kinds count 0 := by rw [htb, hW2]; exact heap_alloc_new W1 _
  have hb2 : Below w.heap.size w W2 := by rw [hW2]; exact hb1.alloc hb1.size _
  have htw : w.heap.size ≤ tb := by rw [htb]; exact hb1.size
  have hl30 : l.length ≤ 1000 := by rw [HN.out]; omega
  clear hW2 htb hb1
  refine (ticks_any l _ W2 (h.below hb2) hl30).mono ?_
  rintro e W3 ⟨v3, rfl, hr3, hb3⟩
  have hT3 := (hb3.block _ (lt_of_heap hT2)).trans hT2
  have hbb3 := hb2.trans (hb3.mono hb2.size)
  clear hT2 hb2 hb3
  go_wp2_with fail
  refine (test_has l v3 tb kinds count 0 W3 hT3 hr3 hl30 (by decide) (by decide)).mono ?_
  rintro e W4 ⟨rfl, hT4, hk4⟩
  have hr34 := hr3.kpt hk4 (TB.ne hT3)
  have hbb4 := hbb3.trans (hk4.below hbb3.size (by simpa using htw))
  clear hr3 hT3 hk4 hbb3
  cases hy : hasB kinds count l with
  | false =>
    go_wp2
    go_ret
    exact ⟨rfl, hbb4⟩
  | true =>
    obtain ⟨p1, p2, p3⟩ := down_all _ l hy
    have hdl := down_len (hasB kinds count) l
    have hda := down_ask (hasB kinds count) l hl30
    clear hy
    go_wp2_with fail
    refine (down_any l v3 tb kinds count (0 + 1) W4 hT4 hr34 hl30 (by decide) (by decide)).mono ?_
    rintro e W5 ⟨v5, rfl, hr5, hT5, hk5⟩
    have hr35 := hr34.kpt hk5 (TB.ne hT4)
    have hbb5 := hbb4.trans (hk5.below hbb4.size (by simpa using htw))
    clear hr34 hT4 hk5 hbb4
    obtain ⟨N5, hN5⟩ : ∃ N5 : Int, N5 = 0 + 1 + (down (hasB kinds count) l).2 := ⟨_, rfl⟩
    have hN50 : 0 ≤ N5 := by omega
    have hN51 : N5 ≤ 3000000 := by omega
    rw [← hN5] at hT5
    generalize (down (hasB kinds count) l).2 = D at *
    generalize (down (hasB kinds count) l).1 = m at *
    clear hN5
    have hm30 : m.length ≤ 1000 := by omega
    go_wp2_with fail
    refine (test_has m v5 tb kinds count N5 W5 hT5 hr5 hm30 hN50 (by omega)).mono ?_
    rintro e W6 ⟨rfl, hT6, hk6⟩
    have hr36 := hr35.kpt hk6 (TB.ne hT5)
    have hr56 := hr5.kpt hk6 (TB.ne hT5)
    have hbb6 := hbb5.trans (hk6.below hbb5.size (by simpa using htw))
    rw [p1]
    clear hr35 hr5 hT5 hk6 hbb5
    go_wp2_with fail
    refine (same_any l l v3 _ W6 hr36 (h.below hbb6) hl30).mono ?_
    rintro e W7 ⟨rfl, hb7⟩
    rw [decide_eq_true (rfl : l = l)]
    have hT7 : TB W7 tb kinds count (N5 + 1) := (hb7.block _ (lt_of_heap hT6)).trans hT6
    have hbb7 := hbb6.trans (hb7.mono hbb6.size)
    have hr37 := hr36.below hb7
    have hr57 := hr56.below hb7
    clear hT6 hbb6 hr36 hr56 hb7 hda
    go_wp2_with fail
    obtain ⟨a5, cap5, rfl, hc5, hm5⟩ := hr57.ne
    obtain ⟨a3, cap3, rfl, hc3, hm3⟩ := hr37.ne
    rw [HN.out] at hr37 hc3 ⊢
    generalize hM : m.length = M at *
    have HM := hid2 hM
    have HR3 := hid2 hr37
    have HR5 := hid2 hr57
    have HT7 := hid2 hT7
    have HP3 := hid2 p3
    have HP2 := hid2 p2
    have hm5' : cap5 ≤ 9223372036854775807 := by unfold maxLen at hm5; omega
    have hm3' : cap3 ≤ 9223372036854775807 := by unfold maxLen at hm3; omega
    clear hM hr37 hr57 hT7 p1 p2 p3 hm5 hm3
    go_loopw [11] (fun i wr => ∃ k : Nat, k ≤ M ∧ i = .int .i64 k ∧ (∃ q : Nat, q ≤ k ∧ TB wr tb kinds count (N5 + 1 + q)) ∧ Kpt [tb] W7.heap.size W7 wr) (fun i _ => M - (intOf i).toNat)
    case atStart => exact ⟨0, by omega, rfl, ⟨0, by omega, by simpa using HT7.out⟩, ⟨rfl, rfl, rfl, Nat.le_refl _, fun _ _ _ => rfl⟩⟩
    case round =>
      obtain ⟨k, hk, rfl, ⟨q, hq, hT⟩, hkp⟩ := hrel
      have HT := hid2 hT
      clear hT
      by_cases hlt : k < M
      · have hrow : CRow wr (.slice a5 M cap5) m := HR5.out.kpt hkp (TB.ne HT7.out)
        obtain ⟨a1, cap1, hv, _, _, hcc⟩ := hrow
        rw [HM.out] at hv
        simp only [Value.slice.injEq] at hv
        obtain ⟨rfl, _, rfl⟩ := hv
        obtain ⟨b, off, cur, pre, post, rfl, hb, hcur, hp⟩ := hcc (by intro h; have := HM.out; rw [h] at this; simp at this; omega)
        obtain ⟨n1, _⟩ := cnews hb hcur hp k (by rw [HM.out]; omega)
        obtain ⟨_, n2⟩ := cnews hb hcur hp (k + 1) (by rw [HM.out]; omega)
        obtain ⟨B, hBe, hBn⟩ : ∃ B : Addr, (if cap5 = k + 1 then some (⟨b, off, none⟩ : Addr) else some ⟨b, off + (k + 1) * 15, none⟩) = some B ∧ ∀ j u, (cellsOf (m.drop (k + 1)))[j]? = some u → wr.cell? (B.add j) = some u := by
          by_cases h : cap5 = k + 1
          · refine ⟨⟨b, off, none⟩, by simp [h], fun t u hu => ?_⟩
            have hlt := (List.getElem?_eq_some_iff.1 hu).1
            rw [cellsOf_len, List.length_drop, HM.out] at hlt
            omega
          · exact ⟨⟨b, off + (k + 1) * 15, none⟩, by simp [h], n2⟩
        have HN1 := hid2 n1
        have HN2 := hid2 hBn
        have HLe : Hid ((cellsOf (m.take k)).length = k * 15) := by unfold Hid; rw [cellsOf_len, List.length_take, HM.out]; omega
        have HLe2 : Hid ((cellsOf (m.drop (k + 1))).length = (M - (k + 1)) * 15) := by unfold Hid; rw [cellsOf_len, List.length_drop, HM.out]
        have hkc : (k : Int) ≤ (cap5 : Int) := by omega
        have hk0 : (0 : Int) ≤ (k : Int) := by omega
        have hwr : IntKind.i64.wrap ((k : Int) + 1) = (k : Int) + 1 := by rw [IntKind.wrap_i64]; omega
        have hp0 : (0 : Int) ≤ (k : Int) + 1 := by omega
        have hp1 : (k : Int) + 1 ≤ (M : Int) := by omega
        have hp2 : ((k : Int) + 1).toNat = k + 1 := by omega
        have htl := lt_of_heap HT.out
        clear n1 n2 hBn hcc hb hcur hp
        go_wp2
        go_region_law (first
          | (refine step_append_own rfl (.tmp 53) (.tmp 56) 27 rfl wr.heap.size 42 i0 zTick 15 120 Try.underlying27 hi hz0 hz1 hz2 rfl (by decide) (.slice (some ⟨wr.heap.size, 0, none⟩) 0 0) 0 [] (by simp [Act.eval]) (World.ownsRow_made wr.drew #[] 0 (Nat.le_refl _) (by decide) rfl) ⟨b, off, none⟩ k cap5 (cellsOf (m.take k)) (by simp [Act.eval]) HLe.out (fun j u hu => (Below.cell ((below_drewN (Below.refl wr.heap.size wr) 1).alloc (Nat.le_refl _) _) (block_lt_of_cell (HN1.out j u hu))).trans (HN1.out j u hu)) (cellsOf_one _) (by unfold maxLen; omega) (by omega) (by simp) ?_; intro v1 w1 hown1 hgrow1; have hb1 : Below wr.heap.size wr w1 := below_mk (below_drewN (Below.refl wr.heap.size wr) 1) (Nat.le_refl _) hgrow1 (by intro k hk; simp [Value.ownBlock] at hk; omega); simp only [Nat.zero_add, List.nil_append] at hown1; clear hgrow1)
          | (refine step_append_own rfl (.tmp 57) (.tmp 61) 27 rfl wr.heap.size 42 i0 zTick 15 120 Try.underlying27 hi hz0 hz1 hz2 rfl (by decide) v1 k (cellsOf (m.take k)) (by simp [Act.eval]) hown1 B (M - (k + 1)) (cap5 - (k + 1)) (cellsOf (m.drop (k + 1))) (by simp [Act.eval]) HLe2.out (fun j u hu => (hb1.cell (block_lt_of_cell (HN2.out j u hu))).trans (HN2.out j u hu)) (cellsOf_one _) (by unfold maxLen; omega) (by omega) hb1.size ?_; intro v2 w2 hown2 hgrow2; have hb2 : Below wr.heap.size wr w2 := below_mk0 hb1 hb1.size hgrow2 (fun k hk => (hown1.lt k hk).1); have hr2 : CRow w2 v2 (m.eraseIdx k) := erase_row HM.out hlt hown2; clear hgrow2)
          | (go_simp; go_at_call 12; refine (test_has (m.eraseIdx k) v2 tb kinds count (N5 + 1 + q) w2 ((hb2.block tb htl).trans HT.out) hr2 (by have := List.length_eraseIdx_le m k; have := HM.out; omega) (by omega) (by omega)).mono ?_; rintro e w3 ⟨rfl, hT3, hk3⟩))
        all_goals
          have hbf : hasB kinds count (m.eraseIdx k) = false := HP3.out k hlt
          have hkk : Kpt [tb] W7.heap.size W7 w3 := hkp.trans (((Kpt.of hb2 [tb]).trans (hk3.mono hb2.size (fun _ hm _ => hm))).mono hkp.size (fun _ hm _ => hm))
          have HT3 := hid2 hT3
          clear hb1 hb2 hown1 hown2 hr2 hT3 hk3
          rw [hbf]
          clear hbf
          go_wp2
          go_roundw
          case rel => exact ⟨k + 1, by omega, by go_num, ⟨q + 1, by omega, by rw [show N5 + 1 + ((q + 1 : Nat) : Int) = N5 + 1 + q + 1 by omega]; exact HT3.out⟩, hkk⟩
          case measure => simp [intOf]; omega
      · obtain ⟨W8, hW8⟩ : ∃ W8, W8 = wr := ⟨_, rfl⟩
        have hr3 : CRow W8 (.slice a3 n cap3) l := by rw [hW8]; exact HR3.out.kpt hkp (TB.ne HT7.out)
        have hr5 : CRow W8 (.slice a5 M cap5) m := by rw [hW8]; exact HR5.out.kpt hkp (TB.ne HT7.out)
        have hb8 : Below w.heap.size w W8 := by rw [hW8]; exact hbb7.trans (hkp.below hbb7.size (by simpa using htw))
        have HR38 := hid2 hr3
        have HR58 := hid2 hr5
        go_wp2
        rw [← hW8]
        clear hr3 hr5 hW8 HT hkp hq HP3 HR3 HR5 HT7
        go_loopw [12, 13] (fun f g wq => ∃ i k : Nat, i ≤ n ∧ k ≤ M ∧ g = .int .i64 i ∧ f = .int .i64 k ∧ (m.drop k).Sublist (l.drop i) ∧ ∃ q, wq = W8.drewN q) (fun _ g _ => n - (intOf g).toNat)
        case atStart => exact ⟨0, 0, by omega, by omega, rfl, rfl, HP2.out, 0, rfl⟩
        case round =>
          obtain ⟨i, k, hi', hk', rfl, rfl, hsub, q, rfl⟩ := hrel
          have HSU := hid2 hsub
          clear hsub
          by_cases hgo : i < n ∧ k < M
          · obtain ⟨hin, hkM⟩ := hgo
            obtain ⟨x, hx⟩ : ∃ x, l[i]? = some x := ⟨_, List.getElem?_eq_getElem (by rw [HN.out]; exact hin)⟩
            obtain ⟨y, hy⟩ : ∃ y, m[k]? = some y := ⟨_, List.getElem?_eq_getElem (by rw [HM.out]; exact hkM)⟩
            obtain ⟨a1, c1', hv, _, _, hcc⟩ := HR38.out
            obtain ⟨a2, c2', hv2, _, _, hcc2⟩ := HR58.out
            rw [HN.out] at hv
            rw [HM.out] at hv2
            simp only [Value.slice.injEq] at hv hv2
            obtain ⟨rfl, _, rfl⟩ := hv
            obtain ⟨rfl, _, rfl⟩ := hv2
            obtain ⟨b, off, cur, pre, post, rfl, hb, hcur, hp⟩ := hcc (by intro h; have := HN.out; rw [h] at this; simp at this; omega)
            obtain ⟨b', off', cur', pre', post', rfl, hb', hcur', hp'⟩ := hcc2 (by intro h; have := HM.out; rw [h] at this; simp at this; omega)
            have cc : ∀ t z, (tkc x)[t]? = some z → W8.cell? ⟨b, off + i * 15 + t, none⟩ = some z := fun t z hz => by
              have := crow_cell hb hcur hp hx hz
              rwa [← Nat.add_assoc] at this
            have dd : ∀ t z, (tkc y)[t]? = some z → W8.cell? ⟨b', off' + k * 15 + t, none⟩ = some z := fun t z hz => by
              have := crow_cell hb' hcur' hp' hy hz
              rwa [← Nat.add_assoc] at this
            have HY := hid2 (fun (e : x = y) => sub_yes hx (by rw [e]; exact hy) HSU.out)
            have HNO := hid2 (fun (e : ¬ x = y) => sub_no hx hy e HSU.out)
            have c0 : W8.cell? ⟨b, off + i * 15, none⟩ = _ := cc 0 _ rfl
            have c1 := cc 1 _ rfl
            have c2 := cc 2 _ rfl
            have c3 := cc 3 _ rfl
            have c4 := cc 4 _ rfl
            have c5 := cc 5 _ rfl
            have c6 := cc 6 _ rfl
            have c7 := cc 7 _ rfl
            have c8 := cc 8 _ rfl
            have c9 := cc 9 _ rfl
            have c10 := cc 10 _ rfl
            have c11 := cc 11 _ rfl
            have c12 := cc 12 _ rfl
            have c13 := cc 13 _ rfl
            have c14 := cc 14 _ rfl
            have d0 : W8.cell? ⟨b', off' + k * 15, none⟩ = _ := dd 0 _ rfl
            have d1 := dd 1 _ rfl
            have d2 := dd 2 _ rfl
            have d3 := dd 3 _ rfl
            have d4 := dd 4 _ rfl
            have d5 := dd 5 _ rfl
            have d6 := dd 6 _ rfl
            have d7 := dd 7 _ rfl
            have d8 := dd 8 _ rfl
            have d9 := dd 9 _ rfl
            have d10 := dd 10 _ rfl
            have d11 := dd 11 _ rfl
            have d12 := dd 12 _ rfl
            have d13 := dd 13 _ rfl
            have d14 := dd 14 _ rfl
            have heq : ∀ W : World, (binOp .eql 42 (.agg #[.int .i64 18, .int .i64 0, .int .i64 0, .int .i64 0, .int .i64 0, .int .i64 0, .int .i64 x, .int .i64 0, .int .i64 0, .int .i64 0, .int .i64 0, .int .i64 0, .int .i64 0, .int .i64 0, .bool false]) (.agg #[.int .i64 18, .int .i64 0, .int .i64 0, .int .i64 0, .int .i64 0, .int .i64 0, .int .i64 y, .int .i64 0, .int .i64 0, .int .i64 0, .int .i64 0, .int .i64 0, .int .i64 0, .int .i64 0, .bool false])).run Try.prog W = .ok (.bool (x == y)) W := tick_eql x y
            clear hcc hcc2 hb hb' hcur hcur' hp hp' hx hy cc dd
            go_wp2
            go_quiet (fail)
            clear heq c0 c1 c2 c3 c4 c5 c6 c7 c8 c9 c10 c11 c12 c13 c14 d0 d1 d2 d3 d4 d5 d6 d7 d8 d9 d10 d11 d12 d13 d14
            go_wp2
            · rename_i hb
              have hxy : x = y := by simpa using hb
              have HX := hid2 (HY.out hxy)
              clear hxy hb
              go_roundw
              case rel => exact ⟨i + 1, k + 1, by omega, by omega, by go_num, by go_num, HX.out, _, rfl⟩
              case measure => simp [intOf]; omega
            · rename_i hb
              have hxy : ¬ x = y := by simpa using hb
              have HX := hid2 (HNO.out hxy)
              clear hxy hb
              go_roundw
              case rel => exact ⟨i + 1, k, by omega, by omega, by go_num, rfl, HX.out, _, rfl⟩
              case measure => simp [intOf]; omega
          · have hkM : k = M := by
              by_cases hin : i < n
              · omega
              · have h1 := HSU.out
                rw [List.drop_eq_nil_of_le (show l.length ≤ i by rw [HN.out]; omega)] at h1
                have h2 := List.sublist_nil.1 h1
                have h3 := List.drop_eq_nil_iff.1 h2
                rw [HM.out] at h3
                omega
            clear hgo
            subst hkM
            have hbq : Below w.heap.size w (W8.drewN q) := below_drewN hb8 q
            by_cases hin : i < n
            · go_wp2
              go_ret
              exact ⟨rfl, hbq⟩
            · go_wp2
              go_ret
              exact ⟨rfl, hbq⟩
end Go.Proofs.Ytfkgigkkolekeaa
