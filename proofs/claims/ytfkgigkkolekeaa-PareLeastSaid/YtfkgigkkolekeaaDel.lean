/- The walks of slices.Clone and slices.Delete over rows of ticks. -/
import Derived.Test.YtfkgigkkolekeaaHas
import Derived.Deep.RegionLaw
import Derived.WalkSmall
namespace Go.Proofs.Ytfkgigkkolekeaa
open Go.RowKit
theorem below_mk0 {N : Nat} {w w1 w2 : World} {row : Option Nat} (h : Below N w w1) (hN : N ≤ w1.heap.size) (hg : w1.grownBy w2 row) (hr : ∀ k, row = some k → N ≤ k) : Below N w w2 :=
  h.grown hg hN hr
set_option maxHeartbeats 400000 in
theorem clone_any (l : List Int) (v : Value) (w : World) (h : CRow w v l) (hlen : l.length ≤ 1000) :
    Calls Try.prog 13 #[v] w fun e w' => ∃ v', e = .returned v' ∧ w'.ownsRow w.heap.size 42 15 v' l.length (cellsOf l) ∧ Below w.heap.size w w' := by
  obtain ⟨a, cap, rfl, h1, h2, hc⟩ := h
  obtain ⟨i0, hi, hz0, hz1, hz2⟩ := info_parts Try.info42
  obtain ⟨n, hn⟩ : ∃ n, l.length = n := ⟨_, rfl⟩
  have HL : Hid (l.length = n) := hn
  rw [hn] at h1 hlen
  rw [show (Value.slice a l.length cap) = Value.slice a n cap by rw [hn], hn]
  cases a with
  | none =>
    have hl : l = [] := by
      by_cases h : l = []
      · exact h
      · obtain ⟨_, _, _, _, _, hh, _⟩ := hc h; cases hh
    have h0 : n = 0 := by rw [← HL.out, hl]; rfl
    have HX : Hid (l = []) := hl
    clear hc hn hl
    subst h0
    have hnil := fun W => Lib.run_eql_slice_nil (P := Try.prog) W 27 42 none 0 cap 0 0 Try.underlying27
    go_enter Try.func13, Try.ntmps13
    go_wp2
    go_ret
    exact ⟨_, rfl, by rw [HX.out]; exact World.ownsRow_nil _ _ _ _, Below.refl _ _⟩
  | some ad =>
    have hst : (w.alloc (.cells #[] 42)).ownsRow w.heap.size 42 15 (.slice (some ⟨w.heap.size, 0, none⟩) 0 0) 0 [] := World.ownsRow_made w #[] 0 (by omega) (by decide) rfl
    have hcl : ∀ j u, (cellsOf l)[j]? = some u → (w.alloc (.cells #[] 42)).cell? (ad.add j) = some u := by
      intro j u hu
      have hl : l ≠ [] := by rintro rfl; simp [cellsOf] at hu
      obtain ⟨b, off, cur, pre, post, he, hb, hcur, hp⟩ := hc hl
      simp only [Option.some.injEq] at he
      subst he
      rw [Addr.add_lit, World.cell?_alloc_past _ _ _ (lt_of_heap hb)]
      simp only [World.cell?, hb, Option.isSome_none, Bool.false_eq_true, if_false]
      rw [← Array.getElem?_toList, hcur, List.getElem?_append_right (by omega), hp, Nat.add_sub_cancel_left, List.getElem?_append_left (List.getElem?_eq_some_iff.1 hu).1, hu]
    have HC : Hid (∀ j u, (cellsOf l)[j]? = some u → (w.alloc (.cells #[] 42)).cell? (ad.add j) = some u) := hcl
    have HK : Hid ((cellsOf l).length = n * 15) := by unfold Hid; rw [cellsOf_len, hn]
    clear hc hcl hn
    have hnil := fun W => Lib.run_eql_slice_nil (P := Try.prog) W 27 42 (some ad) n cap 0 0 Try.underlying27
    go_enter Try.func13, Try.ntmps13
    go_wp2_with (at_builtin; refine wpList_append_own _ rfl _ _ 27 rfl w.heap.size 42 i0 (.agg #[.int .i64 0, .int .i64 0, .int .i64 0, .int .i64 0, .int .i64 0, .int .i64 0, .int .i64 0, .int .i64 0, .int .i64 0, .int .i64 0, .int .i64 0, .int .i64 0, .int .i64 0, .int .i64 0, .bool false]) 15 120 Try.underlying27 hi hz0 hz1 hz2 rfl (by decide) _ _ _ rfl hst ad n cap (cellsOf l) rfl HK.out HC.out (cellsOf_one l) ?c3 ?c4 ?c5 ?_)
    case c3 => unfold maxLen; omega
    case c4 => omega
    case c5 => simp
    intro v' w1 hown' hgrow _
    have hb2 := below_mk0 ((Below.refl w.heap.size w).alloc (Nat.le_refl _) (.cells #[] 42)) (by simp) hgrow (fun k hk => (hst.lt k hk).1)
    clear hgrow hst
    go_wp2
    go_ret
    exact ⟨_, rfl, by simpa using hown', hb2⟩
/-- append WHERE THERE IS ROOM in a block known whole, as one step of a region that draws. -/
theorem step_append_row {P : Program} {ops : Array Oper} {o : Oper} {a : Act} {w : World} {K : Act → World → Prop} {Q : Exit → Act → World → Prop} {E : Prop}
    (hgd : o.guard = none) (s x : Operand) (t : TypeId) (hop : o.op = Op.call { callee := Callee.builtin Builtin.append, args := #[s, x], argTypes := #[t, t] })
    (e : TypeId) (i : TypeInfo) (size : Nat) (h1 : P.underlying t = some (.slice e)) (h2 : P.info? e = some i) (h4 : i.size = size)
    (g n cap : Nat) (cur : Array Value) (hs : a.eval s = .slice (some ⟨g, 0, none⟩) n cap) (hg : w.heap[g]? = some (Obj.cells cur e (0, 0)))
    (ad : Addr) (m c : Nat) (news : List Value) (hx : a.eval x = .slice (some ad) m c) (hn : news.length = m * size) (hc : ∀ j u, news[j]? = some u → w.cell? (ad.add j) = some u) (h1c : ∀ u ∈ news, u.oneCell' = true)
    (hroom : n + m ≤ cap) (hfit : n * size + news.length ≤ cur.size)
    (hK : K (a.put o.dst (.slice (some ⟨g, 0, none⟩) (n + m) cap)) (w.setRow g (cur.toList.take (n * size) ++ (news ++ cur.toList.drop (n * size + news.length))).toArray)) :
    if Region.wanted o (yielded ops a.tmps) = true then Oper.wp P o a w K Q else E := by
  have hw : Region.wanted o (yielded ops a.tmps) = true := by simp [Region.wanted, hgd]
  rw [if_pos hw]
  subst h4
  have hrun := run_append_room (P := P) w t o.type e i h1 h2 g n cap cur hg ad m c news hn hc h1c hroom hfit
  unfold Oper.wp
  simp [execOp, hop, resolve, invoke, builtin, hs, hx, hrun, Result.andThen]
  exact hK
theorem run_clear_row {P : Program} (w : World) (t e ty e' : TypeId) (z : Value) (ht : P.underlying t = some (.slice e)) (hv : ∀ w, (zeroValue e).run P w = .ok z w) (h1 : ∀ n, ∀ u ∈ (Builtin.zeroCells z.cells n).toList, u.oneCell' = true) (g o n c : Nat) (hn : 0 < n) (cur : Array Value)
    (hg : w.heap[g]? = some (Obj.cells cur e' (0, 0))) (hfit : o + n * z.cells.size ≤ cur.size) :
    (Builtin.clear_ #[t] ty #[.slice (some ⟨g, o, none⟩) n c]).run P w = .ok (.tuple #[]) (w.setRow g (cur.toList.take o ++ (Builtin.zeroCells z.cells n).toList ++ cur.toList.drop (o + n * z.cells.size)).toArray) := by
  have hl : (Builtin.zeroCells z.cells n).toList.length = n * z.cells.size := by rw [Array.length_toList, size_zeroCells]
  have hst := run_storeCells_at P g o e' (Builtin.zeroCells z.cells n).toList 0 cur w hg (by rw [hl]; simpa using hfit) (h1 n)
  simp only [Nat.add_zero, hl] at hst
  obtain ⟨m, rfl⟩ : ∃ m, n = m + 1 := ⟨n - 1, by omega⟩
  simp [Builtin.clear_, run_underlying ht, hv, hst]
def zTick : Value := .agg #[.int .i64 0, .int .i64 0, .int .i64 0, .int .i64 0, .int .i64 0, .int .i64 0, .int .i64 0, .int .i64 0, .int .i64 0, .int .i64 0, .int .i64 0, .int .i64 0, .int .i64 0, .int .i64 0, .bool false]
theorem zero42 (w : World) : (zeroValue 42).run Try.prog w = .ok zTick w := by kernel_rfl
theorem zTick_at : ∀ k, k < 15 → (zTick.cells[k]!).oneCell' = true := by decide
theorem zTick_one (n : Nat) : ∀ u ∈ (Builtin.zeroCells zTick.cells n).toList, u.oneCell' = true := by
  intro u hu
  simp only [Builtin.zeroCells, Array.toList_map, List.mem_map] at hu
  obtain ⟨i, _, rfl⟩ := hu
  exact zTick_at _ (Nat.mod_lt _ (by decide))
theorem drop_news {l : List Int} {j : Nat} {cur : Array Value} (hj : j ≤ l.length) (ht : cur.toList.take (l.length * 15) = cellsOf l) : ∀ t u, (cellsOf (l.drop j))[t]? = some u → cur[j * 15 + t]? = some u := by
  intro t u hu
  have hlt := (List.getElem?_eq_some_iff.1 hu).1
  rw [cellsOf_len, List.length_drop] at hlt
  rw [← cellsOf_drop l j hj, List.getElem?_drop, ← ht, List.getElem?_take, if_pos (by omega), Array.getElem?_toList] at hu
  exact hu
set_option maxHeartbeats 1600000 in
set_option maxRecDepth 1000000 in
theorem delete_any (l : List Int) (i j : Nat) (v : Value) (B : Nat) (w : World) (h : w.ownsRow B 42 15 v l.length (cellsOf l)) (hij : i < j) (hj : j ≤ l.length) :
    Calls Try.prog 17 #[v, .int .i64 i, .int .i64 j] w fun e w' => ∃ v', e = .returned v' ∧ w'.ownsRow B 42 15 v' (i + (l.length - j)) (cellsOf (l.take i ++ l.drop j)) ∧ Below B w w' := by
  obtain ⟨i0, hi, hz0, hz1, hz2⟩ := info_parts Try.info42
  rcases h.2 with ⟨_, h0⟩ | ⟨g, cap, cur, rfl, hB, hg, hn, hcm, hs, ht⟩
  · omega
  obtain ⟨A, hA, hnews⟩ : ∃ A : Addr, (if cap = j then some (⟨g, 0, none⟩ : Addr) else some ⟨g, j * 15, none⟩) = some A ∧ Hid (∀ t u, (cellsOf (l.drop j))[t]? = some u → w.drew.cell? (A.add t) = some u) := by
    have hd := drop_news hj ht
    by_cases hcj : cap = j
    · refine ⟨⟨g, 0, none⟩, by simp [hcj], fun t u hu => ?_⟩
      have hlt := (List.getElem?_eq_some_iff.1 hu).1
      rw [cellsOf_len, List.length_drop] at hlt
      omega
    · refine ⟨⟨g, j * 15, none⟩, by simp [hcj], fun t u hu => ?_⟩
      rw [Addr.add_lit]
      show w.cell? _ = _
      simp only [World.cell?, hg, Option.isSome_none, Bool.false_eq_true, if_false]
      exact hd t u hu
  obtain ⟨n, hln⟩ : ∃ n, l.length = n := ⟨_, rfl⟩
  have s1 : Hid ((cellsOf (l.drop j)).length = (n - j) * 15) := by unfold Hid; rw [cellsOf_len, List.length_drop, hln]
  have s2 : Hid (∀ u ∈ cellsOf (l.drop j), u.oneCell' = true) := cellsOf_one _
  obtain ⟨cur1, hcur1⟩ : ∃ c, c = (cur.toList.take (i * 15) ++ (cellsOf (l.drop j) ++ cur.toList.drop (i * 15 + (cellsOf (l.drop j)).length))).toArray := ⟨_, rfl⟩
  have hl1 : cur1.size = cap * 15 := by
    rw [hcur1]; simp only [List.size_toArray, List.length_append, List.length_take, List.length_drop, Array.length_toList, cellsOf_len, hs]; omega
  obtain ⟨W1, hW1⟩ : ∃ W1, W1 = w.drew.setRow g cur1 := ⟨_, rfl⟩
  have hg1 : W1.heap[g]? = some (Obj.cells cur1 42 (0, 0)) := by rw [hW1]; exact setRow_heap w.drew g cur cur1 42 (0, 0) hg
  obtain ⟨zc, hzc⟩ : ∃ zc, zc = zTick.cells := ⟨_, rfl⟩
  have hcl : ∀ ty, (Builtin.clear_ #[27] ty #[.slice (some ⟨g, (i + (n - j)) * 15, none⟩) (n - (i + (n - j))) (cap - (i + (n - j)))]).run Try.prog W1 = .ok (.tuple #[]) (W1.setRow g (cur1.toList.take ((i + (n - j)) * 15) ++ ((Builtin.zeroCells zc (n - (i + (n - j)))).toList ++ cur1.toList.drop ((i + (n - j)) * 15 + (n - (i + (n - j))) * 15))).toArray) :=
    fun ty => by rw [hzc, ← List.append_assoc]; exact run_clear_row W1 27 42 ty 42 zTick Try.underlying27 zero42 zTick_one g _ _ _ (by omega) cur1 hg1 (by rw [hl1]; show _ + _ * 15 ≤ _; omega)
  have HW : Hid (W1 = w.drew.setRow g (cur.toList.take (i * 15) ++ (cellsOf (l.drop j) ++ cur.toList.drop (i * 15 + (cellsOf (l.drop j)).length))).toArray) := by rw [← hcur1]; exact hW1
  have hfit : Hid (i * 15 + (cellsOf (l.drop j)).length ≤ cur.size) := by unfold Hid; rw [cellsOf_len, List.length_drop, hs]; omega
  have hg' : Hid (w.drew.heap[g]? = some (Obj.cells cur 42 (0, 0))) := hg
  have HZ : Hid (zc.size = 15) := by rw [hzc]; rfl
  have HC : Hid (cur1 = (cur.toList.take (i * 15) ++ (cellsOf (l.drop j) ++ cur.toList.drop (i * 15 + (cellsOf (l.drop j)).length))).toArray ∧ cur.toList.take (l.length * 15) = cellsOf l ∧ cur1.size = cap * 15 ∧ l.length = n ∧ W1.heap[g]? = some (Obj.cells cur1 42 (0, 0)) ∧ W1 = w.drew.setRow g cur1) := ⟨hcur1, ht, hl1, hln, hg1, hW1⟩
  rw [hln] at hj hn
  rw [show (Value.slice (some ⟨g, 0, none⟩) l.length cap) = Value.slice (some ⟨g, 0, none⟩) n cap by rw [hln], hln]
  have hne : ¬ i = j := by omega
  clear hcur1 hl1 hW1 hg1 hs ht hg h hln hzc
  have hic : i ≤ cap := by omega
  have hjc : j ≤ cap := by omega
  unfold maxLen at hcm
  go_enter Try.func17, Try.ntmps17
  go_wp2_with fail
  go_region_law (refine step_append_row rfl (.tmp 22) (.tmp 25) 27 rfl 42 i0 15 Try.underlying27 hi hz1 g i cap cur (by simp [Act.eval, Act.put]) hg'.out A (n - j) (cap - j) (cellsOf (l.drop j)) (by simp [Act.eval, Act.put]) s1.out hnews.out s2.out (by omega) hfit.out ?_; rw [← HW.out])
  go_wp2
  go_ret
  obtain ⟨e1, e2, e3, e4, e5, e6⟩ := HC.out
  have hz : (Builtin.zeroCells zc (n - (i + (n - j)))).toList.length = (n - (i + (n - j))) * 15 := by rw [Array.length_toList, size_zeroCells, HZ.out]
  refine ⟨_, rfl, ⟨?_, .inr ⟨g, cap, _, rfl, hB, setRow_heap W1 g cur1 _ 42 (0, 0) e5, by omega, by unfold maxLen; omega, ?_, ?_⟩⟩, ?_⟩
  · rw [cellsOf_len, List.length_append, List.length_take, List.length_drop, e4, Nat.min_eq_left (by omega)]
  · simp only [List.size_toArray, List.length_append, List.length_take, List.length_drop, Array.length_toList, hz, e3]; omega
  · have hlen1 : (cur1.toList.take ((i + (n - j)) * 15)).length = (i + (n - j)) * 15 := by rw [List.length_take, Array.length_toList, e3]; omega
    show List.take _ (List.append _ _) = _
    rw [List.append_eq, List.take_left' hlen1, e1, List.toList_toArray, cellsOf_append]
    have ht1 : cur.toList.take (i * 15) = cellsOf (l.take i) := by
      rw [← cellsOf_take l i (by omega), ← e2, List.take_take, Nat.min_eq_left (by omega)]
    rw [ht1, ← List.append_assoc, List.take_left' (by rw [List.length_append, cellsOf_len, cellsOf_len, List.length_take, List.length_drop, e4, Nat.min_eq_left (by omega), Nat.add_mul])]
  · refine ⟨?_, ?_, ?_, ?_, fun k hk => ?_⟩ <;> rw [e6]
    · rfl
    · rfl
    · rfl
    · simp [World.setRow]
    · rw [setRow_other _ g k _ (by omega), setRow_other _ g k _ (by omega)]; rfl
end Go.Proofs.Ytfkgigkkolekeaa
