/- The walks of quitrentref42.Has, ns, ticks, same. -/
import Derived.Test.YtfkgigkkolekeaaBase
namespace Go.Proofs.Ytfkgigkkolekeaa
open Go.RowKit
theorem wrap_u64_nn (x : Int) : 0 ≤ IntKind.u64.wrap x := by
  simp [IntKind.wrap, IntKind.signed, IntKind.bits]; omega
theorem shift_run (kinds x : Int) (w : World) : (Op.shift .shr .u64 (IntKind.u64.wrap kinds) .u64 ((IntKind.u64.wrap x).tmod 60)).run Try.prog w = .ok (.int .u64 (shI kinds x)) w := by
  unfold Op.shift
  rw [if_neg (by have := wrap_u64_nn x; have := Int.tmod_nonneg 60 this; omega)]
  rfl
theorem ret_bool {a b : Bool} (h : a = b) : Ending.returned (.bool a) = .returned (.bool b) := by rw [h]
set_option maxHeartbeats 400000 in
theorem has_any (l : List Int) (v : Value) (kinds count : Int) (w : World) (h : IRow w v l) :
    Calls Try.prog 10 #[v, .int .i64 kinds, .int .i64 count] w fun e w' => e = .returned (.bool (hasB kinds count l)) ∧ w = w' := by
  obtain ⟨a, cap, rfl, h1, h2, hc⟩ := h
  have hm : l.length ≤ 9223372036854775807 := by unfold maxLen at h2; omega
  clear h1 h2
  go_enter Try.func10, Try.ntmps10
  go_wp2
  go_loop [7, 8] (fun n i => ∃ k : Nat, k ≤ l.length ∧ i = .int .i64 k ∧ n = .int .i64 (cntN kinds (l.take k) : Nat)) (fun _ i => l.length - (intOf i).toNat)
  case atStart => exact ⟨0, Nat.zero_le _, rfl, rfl⟩
  case round =>
    obtain ⟨k, hk, rfl, rfl⟩ := hrel
    have hcn := cntN_le kinds (l.take k)
    have hl : (l.take k).length ≤ k := List.length_take_le _ _
    by_cases hlt : k < l.length
    · obtain ⟨b, off, rfl, hcell⟩ := hc k hlt
      obtain ⟨x, hx⟩ : ∃ x, l[k]? = some x := ⟨_, List.getElem?_eq_getElem hlt⟩
      have hgd : l.getD k 0 = x := by rw [List.getD_eq_getElem?_getD, hx]; rfl
      rw [hgd] at hcell
      have HS : Hid (cntN kinds (l.take (k + 1)) = cntN kinds (l.take k) + if bitB kinds x then 1 else 0) := cntN_snoc kinds l k x hx
      have hsh := shift_run kinds x
      clear hx hgd hc
      generalize cntN kinds (l.take k) = c at *
      go_wp2
      · rename_i hb
        go_round
        case rel => exact ⟨k + 1, by omega, by go_num, by rw [HS.out, show bitB kinds x = true from hb]; go_num⟩
        case measure => simp [intOf]; omega
      · rename_i hb
        go_round
        case rel => exact ⟨k + 1, by omega, by go_num, by rw [HS.out, show bitB kinds x = false from hb]; rfl⟩
        case measure => simp [intOf]; omega
    · go_wp2
      go_ret
      exact ⟨ret_bool (by unfold hasB; rw [List.take_of_length_le (by omega)]), rfl⟩
end Go.Proofs.Ytfkgigkkolekeaa
namespace Go.Proofs.Ytfkgigkkolekeaa
open Go.RowKit
theorem Try.info3 : (Try.prog.info? 3).map (fun i => (i.zero, i.size, i.bytes)) = some (some (.int .i64 0), 1, 8) := by kernel_rfl
theorem Try.info42 : (Try.prog.info? 42).map (fun i => (i.zero, i.size, i.bytes)) = some (some (.agg #[.int .i64 0, .int .i64 0, .int .i64 0, .int .i64 0, .int .i64 0, .int .i64 0, .int .i64 0, .int .i64 0, .int .i64 0, .int .i64 0, .int .i64 0, .int .i64 0, .int .i64 0, .int .i64 0, .bool false]), 15, 120) := by kernel_rfl
theorem news_alloc (w : World) (xs : List Value) (t : TypeId) : ∀ j u, xs[j]? = some u → (w.alloc (.cells xs.toArray t)).cell? ((⟨w.heap.size, 0, none⟩ : Addr).add j) = some u := by
  intro j u h
  rw [Addr.add_lit, World.cell?_alloc_at _ _ _ _ rfl, Nat.zero_add]
  simpa using h
theorem take_snoc' (l : List Int) (k : Nat) (x : Int) (h : l[k]? = some x) : l.take (k + 1) = l.take k ++ [x] := by
  rw [List.take_add_one, h]; rfl
theorem below_mk {N : Nat} {w w1 w2 : World} {o : Obj} {row : Option Nat} (h : Below N w w1) (hN : N ≤ w1.heap.size) (hg : (w1.alloc o).grownBy w2 row) (hr : ∀ k, row = some k → N ≤ k) : Below N w w2 :=
  (h.alloc hN o).grown hg (by simp; omega) hr
set_option maxHeartbeats 400000 in
theorem ns_any (l : List Int) (v : Value) (w : World) (h : CRow w v l) (hlen : l.length ≤ 1000) :
    Calls Try.prog 16 #[v] w fun e w' => ∃ v', e = .returned v' ∧ IRow w' v' l ∧ Below w.heap.size w w' := by
  obtain ⟨a, cap, rfl, h1, h2, hc⟩ := h
  clear h1 h2
  obtain ⟨i0, hi, hz0, hz1, hz2⟩ := info_parts Try.info3
  obtain ⟨N, hN⟩ : ∃ N, N = w.heap.size := ⟨_, rfl⟩
  have HN : Hid (N = w.heap.size) := hN
  have hst : (w.alloc (.cells #[] 3)).ownsRow N 3 1 (.slice (some ⟨w.heap.size, 0, none⟩) 0 0) 0 [] := World.ownsRow_made w #[] 0 (by omega) (by decide) rfl
  clear hN
  go_enter Try.func16, Try.ntmps16
  go_wp2
  go_loopw [3, 4] (fun v i wr => ∃ k : Nat, k ≤ l.length ∧ i = .int .i64 k ∧ wr.ownsRow N 3 1 v k ((l.take k).map (Value.int .i64)) ∧ Below N w wr) (fun _ i _ => l.length - (intOf i).toNat)
  case atStart => exact ⟨0, Nat.zero_le _, rfl, hst, (Below.refl _ _).alloc (Nat.le_of_eq HN.out) _⟩
  case round =>
    obtain ⟨k, hk, rfl, hown, hbel⟩ := hrel
    have hsz : N ≤ wr.heap.size := Nat.le_trans (Nat.le_of_eq HN.out) hbel.size
    by_cases hlt : k < l.length
    · obtain ⟨b, off, cur, pre, post, rfl, hb, hcur, hp⟩ := hc (by intro h; rw [h] at hlt; simp at hlt)
      obtain ⟨x, hx⟩ : ∃ x, l[k]? = some x := ⟨_, List.getElem?_eq_getElem hlt⟩
      have hcell := crow_cell hb hcur hp hx (i := 6) rfl
      have hcell2 : wr.cell? ⟨b, off + k * 15 + 6, none⟩ = some (.int .i64 x) := by
        rw [hbel.cell (show b < N by rw [HN.out]; exact lt_of_heap hb), Nat.add_assoc]; exact hcell
      have HX : Hid (l.take (k + 1) = l.take k ++ [x]) := take_snoc' l k x hx
      clear hc hcell hb hcur hx hp
      go_wp2_with (at_builtin; refine wpList_append_own _ rfl _ _ 22 rfl N 3 i0 (.int .i64 0) 1 8 Try.underlying22 hi hz0 hz1 hz2 rfl (by decide) _ _ _ rfl (hown.alloc _) ⟨wr.heap.size, 0, none⟩ 1 1 [.int .i64 x] rfl rfl ?c1 ?c2 ?c3 ?c4 ?c5 ?_)
      case c1 => exact news_alloc wr [.int .i64 x] 3
      case c2 => intro u hu; simp at hu; subst hu; rfl
      case c3 => unfold maxLen; omega
      case c4 => omega
      case c5 => simp; omega
      intro v' w1 hown' hgrow _
      have hb2 := below_mk hbel hsz hgrow (fun k hk => (hown.lt k hk).1)
      clear hgrow hbel hown
      go_wp2
      go_roundw
      case rel => exact ⟨k + 1, by omega, by go_num, by rw [HX.out, List.map_append, List.map_take]; exact hown', hb2⟩
      case measure => simp [intOf]; omega
    · go_wp2
      go_ret
      have hkl : k = l.length := by omega
      subst hkl
      exact ⟨_, rfl, IRow.of_own (base := N) (by rw [List.take_length] at hown; exact hown), by rw [← HN.out]; exact hbel⟩
set_option maxHeartbeats 400000 in
theorem ticks_any (l : List Int) (v : Value) (w : World) (h : IRow w v l) (hlen : l.length ≤ 1000) :
    Calls Try.prog 7 #[v] w fun e w' => ∃ v', e = .returned v' ∧ CRow w' v' l ∧ Below w.heap.size w w' := by
  obtain ⟨a, cap, rfl, h1, h2, hc⟩ := h
  clear h1 h2
  obtain ⟨i0, hi, hz0, hz1, hz2⟩ := info_parts Try.info42
  obtain ⟨N, hN⟩ : ∃ N, N = w.heap.size := ⟨_, rfl⟩
  have HN : Hid (N = w.heap.size) := hN
  have hst : (w.alloc (.cells #[] 42)).ownsRow N 42 15 (.slice (some ⟨w.heap.size, 0, none⟩) 0 0) 0 [] := World.ownsRow_made w #[] 0 (by omega) (by decide) rfl
  clear hN
  go_enter Try.func7, Try.ntmps7
  go_wp2
  go_loopw [3, 4] (fun v i wr => ∃ k : Nat, k ≤ l.length ∧ i = .int .i64 k ∧ wr.ownsRow N 42 15 v k (cellsOf (l.take k)) ∧ Below N w wr) (fun _ i _ => l.length - (intOf i).toNat)
  case atStart => exact ⟨0, Nat.zero_le _, rfl, hst, (Below.refl _ _).alloc (Nat.le_of_eq HN.out) _⟩
  case round =>
    obtain ⟨k, hk, rfl, hown, hbel⟩ := hrel
    have hsz : N ≤ wr.heap.size := Nat.le_trans (Nat.le_of_eq HN.out) hbel.size
    by_cases hlt : k < l.length
    · obtain ⟨b, off, rfl, hcell⟩ := hc k hlt
      obtain ⟨x, hx⟩ : ∃ x, l[k]? = some x := ⟨_, List.getElem?_eq_getElem hlt⟩
      have hgd : l.getD k 0 = x := by rw [List.getD_eq_getElem?_getD, hx]; rfl
      rw [hgd] at hcell
      have hcell2 : wr.cell? ⟨b, off + k, none⟩ = some (.int .i64 x) := by
        rw [hbel.cell (show b < N by rw [HN.out]; exact block_lt_of_cell hcell)]; exact hcell
      have HX : Hid (l.take (k + 1) = l.take k ++ [x]) := take_snoc' l k x hx
      clear hc hcell hx hgd
      go_wp2_with (at_builtin; refine wpList_append_own _ rfl _ _ 27 rfl N 42 i0 (.agg #[.int .i64 0, .int .i64 0, .int .i64 0, .int .i64 0, .int .i64 0, .int .i64 0, .int .i64 0, .int .i64 0, .int .i64 0, .int .i64 0, .int .i64 0, .int .i64 0, .int .i64 0, .int .i64 0, .bool false]) 15 120 Try.underlying27 hi hz0 hz1 hz2 rfl (by decide) _ _ _ rfl (hown.alloc _) ⟨wr.heap.size, 0, none⟩ 1 1 (tkc x) rfl rfl ?c1 ?c2 ?c3 ?c4 ?c5 ?_)
      case c1 => exact news_alloc wr (tkc x) 42
      case c2 => intro u hu; exact cellsOf_one [x] u (by simpa [cellsOf] using hu)
      case c3 => unfold maxLen; omega
      case c4 => omega
      case c5 => simp; omega
      intro v' w1 hown' hgrow _
      have hb2 := below_mk hbel hsz hgrow (fun k hk => (hown.lt k hk).1)
      clear hgrow hbel hown
      go_wp2
      go_roundw
      case rel => exact ⟨k + 1, by omega, by go_num, by rw [HX.out, cellsOf_append]; simpa [cellsOf] using hown', hb2⟩
      case measure => simp [intOf]; omega
    · go_wp2
      go_ret
      have hkl : k = l.length := by omega
      subst hkl
      exact ⟨_, rfl, CRow.of_own (base := N) (by rw [List.take_length] at hown; exact hown), by rw [← HN.out]; exact hbel⟩
end Go.Proofs.Ytfkgigkkolekeaa
