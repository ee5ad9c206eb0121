/- The walk of (*parer).round. -/
import Derived.Test.YtfkgigkkolekeaaAsk
namespace Go.Proofs.Ytfkgigkkolekeaa
open Go.RowKit
theorem delete_at (l : List Int) (i : Nat) (v : Value) (B : Nat) (w : World) (h : w.ownsRow B 42 15 v l.length (cellsOf l)) (hi : i < l.length) :
    Calls Try.prog 17 #[v, .int .i64 i, .int .i64 ((i : Int) + 1)] w fun e w' => ∃ v', e = .returned v' ∧ CRow w' v' (l.eraseIdx i) ∧ Below B w w' := by
  refine (delete_any l i (i + 1) v B w h (by omega) (by omega)).mono ?_
  rintro e w' ⟨v', rfl, h', hb⟩
  refine ⟨v', rfl, CRow.of_own (base := B) ?_, hb⟩
  rw [← List.eraseIdx_eq_take_drop_succ, show i + (l.length - (i + 1)) = (l.eraseIdx i).length by rw [List.length_eraseIdx_of_lt hi]; omega] at h'
  exact h'
theorem rnd_len (h : List Int → Bool) : ∀ n l, n ≤ l.length → (rnd h n l).1.length ≤ l.length ∧ ((rnd h n l).2 = true → (rnd h n l).1.length < l.length)
  | 0, l, _ => by simp [rnd]
  | n + 1, l, hn => by
    unfold rnd
    split
    · have h1 : (l.eraseIdx n).length = l.length - 1 := List.length_eraseIdx_of_lt (by omega)
      have := rnd_len h n (l.eraseIdx n) (by omega)
      simp only [forall_const]
      omega
    · exact rnd_len h n l (by omega)
theorem ptne {w : World} {pb tb : Nat} {kinds count n m : Int} (hP : PB w pb tb m) (hT : TB w tb kinds count n) : ∀ b ∈ [pb, tb], ∀ cur fr, w.heap[b]? ≠ some (Obj.cells cur 42 fr) := by
  intro b hb
  simp at hb
  rcases hb with rfl | rfl
  · exact hP.ne b (by simp)
  · exact hT.ne b (by simp)
/-- What holds at a round's head. -/
structure RS (h : List Int → Bool) (l : List Int) (pb tb : Nat) (kinds count n m : Int) (w : World) (v : Value) (c : Bool) (k : Nat) (wr : World) (lc : List Int) : Prop where
  le : k ≤ lc.length
  top : lc.length ≤ l.length
  row : CRow wr v lc
  eq : rnd h l.length l = ((rnd h k lc).1, c || (rnd h k lc).2)
  pb' : PB wr pb tb (m + l.length - k)
  tb' : TB wr tb kinds count (n + l.length - k)
  kpt : Kpt [pb, tb] w.heap.size w wr
  kl : k ≤ l.length
theorem RS.yes {kinds count : Int} {l lc : List Int} {pb tb k : Nat} {n m : Int} {w wr w2 : World} {v v2 : Value} {c : Bool} (h : RS (hasB kinds count) l pb tb kinds count n m w v c (k + 1) wr lc) (hy : hasB kinds count (lc.eraseIdx k) = true)
    (hr : CRow w2 v2 (lc.eraseIdx k)) (hp : PB w2 pb tb (m + l.length - (k + 1 : Nat) + 1)) (ht : TB w2 tb kinds count (n + l.length - (k + 1 : Nat) + 1)) (hk : Kpt [pb, tb] wr.heap.size wr w2) :
    RS (hasB kinds count) l pb tb kinds count n m w v2 true k w2 (lc.eraseIdx k) := by
  have h1 : (lc.eraseIdx k).length = lc.length - 1 := List.length_eraseIdx_of_lt (by have := h.le; omega)
  have e1 : m + (l.length : Int) - ((k + 1 : Nat) : Int) + 1 = m + l.length - k := by omega
  have e2 : n + (l.length : Int) - ((k + 1 : Nat) : Int) + 1 = n + l.length - k := by omega
  rw [e1] at hp; rw [e2] at ht
  refine ⟨by have := h.le; omega, by have := h.top; omega, hr, ?_, hp, ht, h.kpt.trans (hk.mono h.kpt.size (fun _ hm _ => hm)), by have := h.kl; omega⟩
  rw [h.eq, rnd, if_pos hy]; simp
theorem RS.no {kinds count : Int} {l lc : List Int} {pb tb k : Nat} {n m : Int} {w wr w2 : World} {v : Value} {c : Bool} (h : RS (hasB kinds count) l pb tb kinds count n m w v c (k + 1) wr lc) (hy : hasB kinds count (lc.eraseIdx k) = false)
    (hr : CRow w2 v lc) (hp : PB w2 pb tb (m + l.length - (k + 1 : Nat) + 1)) (ht : TB w2 tb kinds count (n + l.length - (k + 1 : Nat) + 1)) (hk : Kpt [pb, tb] wr.heap.size wr w2) :
    RS (hasB kinds count) l pb tb kinds count n m w v c k w2 lc := by
  have e1 : m + (l.length : Int) - ((k + 1 : Nat) : Int) + 1 = m + l.length - k := by omega
  have e2 : n + (l.length : Int) - ((k + 1 : Nat) : Int) + 1 = n + l.length - k := by omega
  rw [e1] at hp; rw [e2] at ht
  refine ⟨by have := h.le; omega, h.top, hr, ?_, hp, ht, h.kpt.trans (hk.mono h.kpt.size (fun _ hm _ => hm)), by have := h.kl; omega⟩
  rw [h.eq, rnd, if_neg (by simp [hy])]
set_option maxHeartbeats 1600000 in
theorem round_any (l : List Int) (v : Value) (pb tb : Nat) (kinds count n m : Int) (w : World) (hP : PB w pb tb m) (hT : TB w tb kinds count n) (h : CRow w v l) (hlen : l.length ≤ 1000) (hn0 : 0 ≤ n) (hn1 : n ≤ 100000000) (hm0 : 0 ≤ m) (hm1 : m ≤ 100000000) :
    Calls Try.prog 15 #[.pointer (some ⟨pb, 0, none⟩), v] w fun e w' => ∃ v', e = .returned (.tuple #[v', .bool (rnd (hasB kinds count) l.length l).2]) ∧ CRow w' v' (rnd (hasB kinds count) l.length l).1 ∧ PB w' pb tb (m + l.length) ∧ TB w' tb kinds count (n + l.length) ∧ Kpt [pb, tb] w.heap.size w w' := by
  have h0 : RS (hasB kinds count) l pb tb kinds count n m w v false l.length w l :=
    ⟨Nat.le_refl _, Nat.le_refl _, h, by simp, by rw [show m + (l.length : Int) - l.length = m by omega]; exact hP, by rw [show n + (l.length : Int) - l.length = n by omega]; exact hT, ⟨rfl, rfl, rfl, Nat.le_refl _, fun _ _ _ => rfl⟩, Nat.le_refl _⟩
  obtain ⟨a, cap, hv, _, _⟩ := h.ne
  have HV : Hid (v = .slice a l.length cap) := hv
  obtain ⟨L, hL⟩ : ∃ L, L = l.length := ⟨_, rfl⟩
  have HL : Hid (L = l.length) := hL
  have hLl : L ≤ 1000 := by omega
  clear hP hT h hv hL hlen
  rw [HV.out] at h0 ⊢
  rw [← HL.out] at h0 ⊢
  go_enter Try.func15, Try.ntmps15
  go_wp2
  go_loopw [1, 6, 7, 8] (fun v c i _ wr => ∃ (k : Nat) (cb : Bool) (lc : List Int), i = .int .i64 ((k : Int) - 1) ∧ c = .bool cb ∧ RS (hasB kinds count) l pb tb kinds count n m w v cb k wr lc) (fun _ _ i _ _ => (intOf i + 1).toNat)
  case atStart => exact ⟨L, false, l, rfl, rfl, h0⟩
  case round =>
    obtain ⟨k, cb, lc, rfl, rfl, hR⟩ := hrel
    have hkl : k ≤ 1000 := by have := hR.kl; have := HL.out; omega
    cases k with
    | zero =>
      go_wp2
      refine bodyPost_ret (v := .tuple #[u1, .bool cb]) (by simp [results, Try.results15, go_sem]) rfl ⟨u1, ?_, ?_, ?_, ?_, hR.kpt⟩
      · have := hR.eq
        rw [HL.out, this]; simp [rnd]
      · have := hR.eq
        rw [HL.out, this]; exact hR.row
      · have := hR.pb'
        rw [HL.out]; simpa using this
      · have := hR.tb'
        rw [HL.out]; simpa using this
    | succ k =>
      rw [show ((k + 1 : Nat) : Int) - 1 = k by omega]
      have hk1 : k < lc.length := hR.le
      have hlc : lc.length ≤ 1000 := by have := hR.top; have := HL.out; omega
      have hkL : k + 1 ≤ l.length := hR.kl
      have hl1 : l.length ≤ 1000 := by rw [← HL.out]; exact hLl
      have hle : (lc.eraseIdx k).length ≤ 1000 := by rw [List.length_eraseIdx_of_lt hk1]; omega
      have HP : Hid (PB wr pb tb (m + l.length - (k + 1 : Nat))) := hR.pb'
      have HT : Hid (TB wr tb kinds count (n + l.length - (k + 1 : Nat))) := hR.tb'
      have hb1n : 0 ≤ n + (l.length : Int) - (k + 1 : Nat) := by omega
      have hb2n : n + (l.length : Int) - (k + 1 : Nat) ≤ 1000000000 := by omega
      have hb1m : 0 ≤ m + (l.length : Int) - (k + 1 : Nat) := by omega
      have hb2m : m + (l.length : Int) - (k + 1 : Nat) ≤ 1000000000 := by omega
      have HR : Hid (RS (hasB kinds count) l pb tb kinds count n m w u1 cb (k + 1) wr lc) := hR
      have hrow := hR.row
      clear hR
      go_wp2_with (first
        | (go_at_call 13; refine (clone_any lc u1 _ hrow hlc).mono ?_; rintro e w1 ⟨v1, rfl, ho1, hbb1⟩)
        | (go_at_call 17; refine (delete_at lc k v1 _ _ ho1 hk1).mono ?_; rintro e w2 ⟨v2, rfl, hr2, hbb2⟩; have hbb := hbb1.trans hbb2; clear ho1 hbb1 hbb2)
        | (go_at_call 14; refine (parer_has (lc.eraseIdx k) v2 pb tb kinds count _ _ w2 ((hbb.block pb (lt_of_heap HP.out)).trans HP.out) ((hbb.block tb (lt_of_heap HT.out)).trans HT.out) hr2 hle hb1n hb2n hb1m hb2m).mono ?_; rintro e w3 ⟨rfl, hp3, ht3, hk3⟩))
      · rename_i hy
        have hk4 := (Kpt.of hbb [pb, tb]).trans (hk3.mono hbb.size (fun _ hm _ => hm))
        have hR2 := HR.out.yes hy (hr2.kpt hk3 ?_) hp3 ht3 hk4
        · go_roundw
          case rel => exact ⟨k, true, _, rfl, rfl, hR2⟩
          case measure => simp [intOf]
        · exact ptne ((hbb.block pb (lt_of_heap HP.out)).trans HP.out) ((hbb.block tb (lt_of_heap HT.out)).trans HT.out)
      · rename_i hy
        have hk4 := (Kpt.of hbb [pb, tb]).trans (hk3.mono hbb.size (fun _ hm _ => hm))
        have hR2 := HR.out.no hy ((hrow.below hbb).kpt hk3 ?_) hp3 ht3 hk4
        · go_roundw
          case rel => exact ⟨k, cb, _, rfl, rfl, hR2⟩
          case measure => simp [intOf]
        · exact ptne ((hbb.block pb (lt_of_heap HP.out)).trans HP.out) ((hbb.block tb (lt_of_heap HT.out)).trans HT.out)
end Go.Proofs.Ytfkgigkkolekeaa
