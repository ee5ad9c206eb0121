/- The walk of quitrentref42.Down. -/
import Derived.Test.YtfkgigkkolekeaaDown
namespace Go.Proofs.Ytfkgigkkolekeaa
open Go.RowKit
/-- append to a row of the call's own, as one step of a region that draws. -/
theorem step_append_own {P : Program} {w : World} {ops : Array Oper} {o : Oper} {a : Act} {K : Act → World → Prop} {Q : Exit → Act → World → Prop} {E : Prop} (hgd : o.guard = none) (s x : Operand) (t : TypeId)
    (ho : o.op = .call { callee := .builtin .append, args := #[s, x], argTypes := #[t, t] })
    (base : Nat) (e : TypeId) (i : TypeInfo) (z : Value) (size bytes : Nat) (ht : P.underlying t = some (.slice e)) (hi : P.info? e = some i) (hz : i.zero = some z)
    (hsize : i.size = size) (hby : i.bytes = bytes) (hzs : z.cells.size = size) (hsz : 0 < size)
    (v : Value) (n : Nat) (xs : List Value) (hs : a.eval s = v) (hown : w.ownsRow base e size v n xs)
    (ad : Addr) (m c : Nat) (news : List Value) (hx : a.eval x = .slice (some ad) m c) (hl : news.length = m * size) (hnews : ∀ j u, news[j]? = some u → w.cell? (ad.add j) = some u) (h1 : ∀ u ∈ news, u.oneCell' = true)
    (h63 : n + m ≤ maxLen) (hbytes : (n + m) * bytes ≤ 140737488355328) (hbase : base ≤ w.heap.size)
    (h : ∀ v' w', w'.ownsRow base e size v' (n + m) (xs ++ news) → w.grownBy w' v.ownBlock → K (a.put o.dst v') w') :
    if Region.wanted o (yielded ops a.tmps) = true then Oper.wp P o a w K Q else E := by
  have hw : Region.wanted o (yielded ops a.tmps) = true := by simp [Region.wanted, hgd]
  rw [if_pos hw]
  exact wp_append_own w s x t ho base e i z size bytes ht hi hz hsize hby hzs hsz v n xs hs hown ad m c news hx hl hnews h1 h63 hbytes hbase fun v' w' h2 h3 _ => h v' w' h2 h3
theorem inews {w : World} {b off : Nat} {l : List Int} (h : ∀ j, j < l.length → w.cell? ⟨b, off + j, none⟩ = some (.int .i64 (l.getD j 0))) (i : Nat) : ∀ j u, ((l.take i).map (Value.int .i64))[j]? = some u → w.cell? ((⟨b, off, none⟩ : Addr).add j) = some u := by
  intro j u hu
  rw [List.getElem?_map, List.getElem?_take] at hu
  split at hu
  · rw [Option.map_eq_some_iff] at hu
    obtain ⟨x, hx, rfl⟩ := hu
    have hj := (List.getElem?_eq_some_iff.1 hx).1
    rw [Addr.add_lit, h j hj, List.getD_eq_getElem?_getD, hx]; rfl
  · simp at hu
theorem inews2 {w : World} {b off k : Nat} {l : List Int} (h : ∀ j, j < l.length → w.cell? ⟨b, off + j, none⟩ = some (.int .i64 (l.getD j 0))) : ∀ j u, ((l.drop k).map (Value.int .i64))[j]? = some u → w.cell? ((⟨b, off + k, none⟩ : Addr).add j) = some u := by
  intro j u hu
  rw [List.getElem?_map, List.getElem?_drop, Option.map_eq_some_iff] at hu
  obtain ⟨x, hx, rfl⟩ := hu
  have hj := (List.getElem?_eq_some_iff.1 hx).1
  rw [Addr.add_lit, Nat.add_assoc, h (k + j) hj, List.getD_eq_getElem?_getD, hx]; rfl
theorem int_one (l : List Int) : ∀ u ∈ l.map (Value.int .i64), u.oneCell' = true := by
  intro u hu
  obtain ⟨x, _, rfl⟩ := List.mem_map.1 hu
  rfl
/-- The inner loop's head. -/
structure QS (h : List Int → Bool) (l0 : List Int) (A0 : Nat) (w : World) (v : Value) (c : Bool) (k A : Nat) (wr : World) (lc : List Int) : Prop where
  le : k ≤ lc.length
  top : lc.length ≤ l0.length
  row : IRow wr v lc
  eq : rnd h l0.length l0 = ((rnd h k lc).1, c || (rnd h k lc).2)
  ask : A + k = A0 + l0.length
  below : Below w.heap.size w wr
/-- The outer loop's head. -/
structure OS (h : List Int → Bool) (l : List Int) (w : World) (v : Value) (f A : Nat) (wr : World) (lc : List Int) : Prop where
  top : lc.length ≤ l.length
  row : IRow wr v lc
  fuel : lc.length < f
  eq : ((dwn h (l.length + 1) l).1, 1 + (dwn h (l.length + 1) l).2) = ((dwn h f lc).1, A + (dwn h f lc).2)
  below : Below w.heap.size w wr
theorem OS.le {h : List Int → Bool} {l l0 : List Int} {w wo : World} {v0 : Value} {f A : Nat} (d : OS h l w v0 f A wo l0) (hl : l.length ≤ 1000) : A ≤ 2000000 := by
  have h1 := dwn_le h 1000 (l.length + 1) l hl
  have h2 : (l.length + 1) * 1000 ≤ 1001 * 1000 := Nat.mul_le_mul_right _ (by omega)
  have h3 := (Prod.mk.injEq _ _ _ _ ▸ d.eq).2
  omega
theorem OS.step {h : List Int → Bool} {l l0 lc : List Int} {w wo wr : World} {v v0 : Value} {f A A' : Nat} (d : OS h l w v0 f A wo l0) (q : QS h l0 A w v true 0 A' wr lc) : ∃ f', OS h l w v f' A' wr lc ∧ lc.length < l0.length := by
  have hl := rnd_len h l0.length l0 (Nat.le_refl _)
  have he := q.eq
  simp only [rnd, Bool.true_or] at he
  rw [he] at hl
  have hlt : lc.length < l0.length := hl.2 rfl
  have hf := d.fuel
  obtain ⟨f, rfl⟩ : ∃ g, f = g + 1 := ⟨f - 1, by omega⟩
  refine ⟨f, ⟨by have := d.top; omega, q.row, by omega, ?_, q.below⟩, hlt⟩
  rw [d.eq, dwn, he]
  simp only [if_true]
  have := q.ask
  rw [show A + (l0.length + (dwn h f lc).snd) = A' + (dwn h f lc).snd by omega]
theorem OS.stop {h : List Int → Bool} {l l0 lc : List Int} {w wo wr : World} {v v0 : Value} {f A A' : Nat} (d : OS h l w v0 f A wo l0) (q : QS h l0 A w v false 0 A' wr lc) : ((dwn h (l.length + 1) l).1, 1 + (dwn h (l.length + 1) l).2) = (lc, A') := by
  have he := q.eq
  simp only [rnd, Bool.false_or] at he
  have hf := d.fuel
  obtain ⟨f, rfl⟩ : ∃ g, f = g + 1 := ⟨f - 1, by omega⟩
  rw [d.eq, dwn, he]
  have := q.ask
  simp
  omega
theorem QS.yes {h : List Int → Bool} {l0 lc : List Int} {A A' k : Nat} {w wr w2 : World} {v v2 : Value} {c : Bool} (q : QS h l0 A w v c (k + 1) A' wr lc) (hy : h (lc.eraseIdx k) = true) (hr : IRow w2 v2 (lc.eraseIdx k)) (hb : Below w.heap.size w w2) :
    QS h l0 A w v2 true k (A' + 1) w2 (lc.eraseIdx k) := by
  have h1 : (lc.eraseIdx k).length = lc.length - 1 := List.length_eraseIdx_of_lt (by have := q.le; omega)
  refine ⟨by have := q.le; omega, by have := q.top; omega, hr, ?_, by have := q.ask; omega, hb⟩
  rw [q.eq, rnd, if_pos hy]; simp
theorem QS.no {h : List Int → Bool} {l0 lc : List Int} {A A' k : Nat} {w wr w2 : World} {v : Value} {c : Bool} (q : QS h l0 A w v c (k + 1) A' wr lc) (hy : h (lc.eraseIdx k) = false) (hr : IRow w2 v lc) (hb : Below w.heap.size w w2) :
    QS h l0 A w v c k (A' + 1) w2 lc := by
  refine ⟨by have := q.le; omega, q.top, hr, ?_, by have := q.ask; omega, hb⟩
  rw [q.eq, rnd, if_neg (by simp [hy])]
theorem IRow.lenV {w : World} {v : Value} {l : List Int} (h : IRow w v l) : lenV v = l.length := by
  obtain ⟨a, cap, rfl, _⟩ := h
  rfl
set_option maxHeartbeats 3200000 in
theorem ref_no (l : List Int) (v : Value) (kinds count : Int) (w : World) (h : IRow w v l) (hy : hasB kinds count l = false) :
    Calls Try.prog 8 #[v, .int .i64 kinds, .int .i64 count] w fun e w' => e = .returned (.tuple #[v, .int .i64 1]) ∧ w = w' := by
  go_enter Try.func8, Try.ntmps8
  go_wp2_with (go_at_call 10; refine (has_any l v kinds count w h).mono ?_; rintro e w1 ⟨rfl, rfl⟩)
  refine bodyPost_ret (v := .tuple #[v, .int .i64 1]) (by simp [results, Try.results8, go_sem]) rfl ⟨rfl, rfl⟩
set_option maxHeartbeats 3200000 in
theorem ref_yes (l : List Int) (v : Value) (kinds count : Int) (w : World) (h : IRow w v l) (hlen : l.length ≤ 1000) (hy : hasB kinds count l = true) :
    Calls Try.prog 8 #[v, .int .i64 kinds, .int .i64 count] w fun e w' => ∃ v', e = .returned (.tuple #[v', .int .i64 (down (hasB kinds count) l).2]) ∧ IRow w' v' (down (hasB kinds count) l).1 ∧ Below w.heap.size w w' := by
  have HE : Hid (down (hasB kinds count) l = ((dwn (hasB kinds count) (l.length + 1) l).1, 1 + (dwn (hasB kinds count) (l.length + 1) l).2)) := by unfold Hid down; rw [if_pos hy]
  have hO : OS (hasB kinds count) l w v (l.length + 1) 1 w l := ⟨Nat.le_refl _, h, by omega, rfl, Below.refl _ _⟩
  obtain ⟨i0, hi, hz0, hz1, hz2⟩ := info_parts Try.info3
  go_enter Try.func8, Try.ntmps8
  go_wp2_with (go_at_call 10; refine (has_any l v kinds count w h).mono ?_; rintro e w1 ⟨rfl, rfl⟩)
  clear h
  go_loopw [0, 8] (fun v a wr => ∃ f A lc, a = .int .i64 (A : Nat) ∧ OS (hasB kinds count) l w v f A wr lc) (fun v _ _ => lenV v)
  case atStart => exact ⟨_, _, _, rfl, hO⟩
  case round =>
    clear hO
    obtain ⟨f, A, l0, rfl, hO⟩ := hrel
    obtain ⟨wo, rfl⟩ : ∃ wo : World, wo = wr := ⟨_, rfl⟩
    have HO := hid2 hO
    obtain ⟨a, cap, hv, hlc, hcm⟩ : ∃ a cap, u0 = .slice a l0.length cap ∧ l0.length ≤ cap ∧ cap ≤ maxLen := by
      obtain ⟨a, cap, hv, h1, h2, _⟩ := hO.row
      exact ⟨a, cap, hv, h1, h2⟩
    have hL : l0.length ≤ 1000 := by have := hO.top; omega
    clear hO
    subst hv
    have hQ0 : QS (hasB kinds count) l0 A w (.slice a l0.length cap) false l0.length A wo l0 := ⟨Nat.le_refl _, Nat.le_refl _, HO.out.row, by simp, rfl, HO.out.below⟩
    have HQ0 := hid2 hQ0
    clear hQ0
    generalize hn : l0.length = n at hL
    have HN : Hid (l0.length = n) := hn
    clear hn
    go_wp2
    go_loopw [0, 8, 9, 10, 11] (fun v a c i _ wr => ∃ (k A' : Nat) (cb : Bool) (lc : List Int), i = .int .i64 ((k : Int) - 1) ∧ c = .bool cb ∧ a = .int .i64 (A' : Nat) ∧ QS (hasB kinds count) l0 A w v cb k A' wr lc) (fun _ _ _ i _ _ => (intOf i + 1).toNat)
    case atStart => exact ⟨n, A, false, l0, rfl, rfl, rfl, by have := HQ0.out; rw [HN.out] at this; exact this⟩
    case round =>
      obtain ⟨k, A', cb, lc, rfl, rfl, rfl, hQ⟩ := hrel
      cases k with
      | zero =>
        cases cb with
        | true =>
          obtain ⟨f', hO', hlt⟩ := HO.out.step hQ
          have hm := hQ.row.lenV
          clear hQ
          go_wp2
          go_roundw
          case rel => exact ⟨f', A', lc, rfl, hO'⟩
          case measure => rw [hm]; show _ < n; have := HN.out; omega
        | false =>
          have hs := hid2 (HO.out.stop hQ)
          have hr := hQ.row
          have hb := hQ.below
          clear hQ
          go_wp2
          refine bodyPost_ret (v := .tuple #[u0, .int .i64 (A' : Nat)]) (by simp [results, Try.results8, go_sem]) rfl ⟨u0, ?_, ?_, hb⟩
          · rw [HE.out, hs.out]
          · rw [HE.out, hs.out]; exact hr
      | succ k =>
        rw [show ((k + 1 : Nat) : Int) - 1 = k by omega]
        have HQ := hid2 hQ
        have hrow := hQ.row
        obtain ⟨a1, cap1, hv, hc1, hc2, hcell⟩ := hQ.row
        obtain ⟨m, hm⟩ : ∃ m, lc.length = m := ⟨_, rfl⟩
        have hkm : k < m := by have := hQ.le; omega
        have hm1 : m ≤ 1000 := by have := hQ.top; have := HN.out; omega
        obtain ⟨b, off, rfl, _⟩ := hcell k (by omega)
        have hcell' : ∀ j, j < lc.length → wr.cell? ⟨b, off + j, none⟩ = some (.int .i64 (lc.getD j 0)) := fun j hj => by
          obtain ⟨b', off', he, hc⟩ := hcell j hj
          simp only [Option.some.injEq, Addr.mk.injEq] at he
          obtain ⟨rfl, rfl, _⟩ := he
          exact hc
        obtain ⟨B, hB⟩ : ∃ B : Addr, (if cap1 = k + 1 then some (⟨b, off, none⟩ : Addr) else some ⟨b, off + (k + 1), none⟩) = some B ∧ ∀ j u, ((lc.drop (k + 1)).map (Value.int .i64))[j]? = some u → wr.cell? (B.add j) = some u := by
          by_cases h : cap1 = k + 1
          · refine ⟨⟨b, off, none⟩, by simp [h], fun t u hu => ?_⟩
            have hlt := (List.getElem?_eq_some_iff.1 hu).1
            rw [List.length_map, List.length_drop] at hlt
            omega
          · exact ⟨⟨b, off + (k + 1), none⟩, by simp [h], inews2 hcell'⟩
        obtain ⟨hBe, hBn⟩ := hB
        have HN1 := hid2 (inews hcell' k)
        have HN2 := hid2 hBn
        have HM := hid2 hm
        have HLe : Hid (((lc.take k).map (Value.int .i64)).length = k * 1) := by unfold Hid; rw [List.length_map, List.length_take]; omega
        have HLe2 : Hid (((lc.drop (k + 1)).map (Value.int .i64)).length = (m - (k + 1)) * 1) := by unfold Hid; rw [List.length_map, List.length_drop]; omega
        have HS := hid2 hQ.below.size
        rw [hm] at hv hc1
        subst hv
        have hkc : (k : Int) ≤ (cap1 : Int) := by omega
        have hk0 : (0 : Int) ≤ (k : Int) := by omega
        have hwr : IntKind.i64.wrap ((k : Int) + 1) = (k : Int) + 1 := by rw [IntKind.wrap_i64]; omega
        have hp0 : (0 : Int) ≤ (k : Int) + 1 := by omega
        have hp1 : (k : Int) + 1 ≤ (m : Int) := by omega
        have hp2 : ((k : Int) + 1).toNat = k + 1 := by omega
        have hp3 : (k : Int) ≤ (m : Int) := by omega
        have hAm : A' ≤ 3000000 := by have := HO.out.le hlen; have := hQ.ask; have := HN.out; omega
        clear hQ hcell hcell' hBn hm hc2
        go_wp2
        go_region_law (first
          | (refine step_append_own rfl (.tmp 26) (.tmp 29) 22 rfl wr.heap.size 3 i0 (.int .i64 0) 1 8 Try.underlying22 hi hz0 hz1 hz2 rfl (by decide) (.slice (some ⟨wr.heap.size, 0, none⟩) 0 0) 0 [] (by simp [Act.eval]) (World.ownsRow_made wr.drew #[] 0 (Nat.le_refl _) (by decide) rfl) ⟨b, off, none⟩ k cap1 ((lc.take k).map (Value.int .i64)) (by simp [Act.eval]) HLe.out (fun j u hu => (Below.cell ((below_drewN (Below.refl wr.heap.size wr) 1).alloc (Nat.le_refl _) _) (block_lt_of_cell (HN1.out j u hu))).trans (HN1.out j u hu)) (int_one _) (by unfold maxLen; omega) (by omega) (by simp) ?_; intro v1 w1 hown1 hgrow1; have hb1 : Below wr.heap.size wr w1 := below_mk (below_drewN (Below.refl wr.heap.size wr) 1) (Nat.le_refl _) hgrow1 (by intro k hk; simp [Value.ownBlock] at hk; omega); simp only [Nat.zero_add, List.nil_append] at hown1; clear hgrow1)
          | (refine step_append_own rfl (.tmp 30) (.tmp 34) 22 rfl wr.heap.size 3 i0 (.int .i64 0) 1 8 Try.underlying22 hi hz0 hz1 hz2 rfl (by decide) v1 k ((lc.take k).map (Value.int .i64)) (by simp [Act.eval]) hown1 B (m - (k + 1)) (cap1 - (k + 1)) ((lc.drop (k + 1)).map (Value.int .i64)) (by simp [Act.eval]) HLe2.out (fun j u hu => (hb1.cell (block_lt_of_cell (HN2.out j u hu))).trans (HN2.out j u hu)) (int_one _) (by unfold maxLen; omega) (by omega) hb1.size ?_; intro v2 w2 hown2 hgrow2; have hb2 : Below wr.heap.size wr w2 := below_mk0 hb1 hb1.size hgrow2 (fun k hk => (hown1.lt k hk).1); clear hgrow2))
        all_goals
          have hr2 : IRow w2 v2 (lc.eraseIdx k) := by
            refine IRow.of_own (base := wr.heap.size) ?_
            have hm := HM.out
            rw [List.length_eraseIdx_of_lt (by omega), List.eraseIdx_eq_take_drop_succ, List.map_append, hm, show m - 1 = k + (m - (k + 1)) by omega]
            exact hown2
          have hrow2 := hrow.below hb2
          have hbb := HQ.out.below.trans (hb2.mono HQ.out.below.size)
          clear hown1 hown2 hb1 hb2 hrow
          go_wp2_with (go_at_call 10; refine (has_any (lc.eraseIdx k) v2 kinds count w2 hr2).mono ?_; rintro e w3 ⟨rfl, rfl⟩)
          · rename_i hy
            have hq2 := HQ.out.yes hy hr2 hbb
            go_roundw
            case rel => exact ⟨k, A' + 1, true, _, rfl, rfl, by go_num, hq2⟩
            case measure => simp [intOf]
          · rename_i hy
            have hq2 := HQ.out.no hy hrow2 hbb
            go_roundw
            case rel => exact ⟨k, A' + 1, cb, _, rfl, rfl, by go_num, hq2⟩
            case measure => simp [intOf]
end Go.Proofs.Ytfkgigkkolekeaa
