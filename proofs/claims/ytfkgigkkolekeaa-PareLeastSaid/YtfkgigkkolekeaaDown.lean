/- The walk of pare.Down. -/
import Derived.Test.YtfkgigkkolekeaaRound
namespace Go.Proofs.Ytfkgigkkolekeaa
open Go.RowKit
def lenV : Value → Nat
  | .slice _ n _ => n
  | _ => 0
def mesV (v c : Value) : Nat := match c with
  | .bool true => lenV v + 1
  | _ => 0
theorem CRow.lenV {w : World} {v : Value} {l : List Int} (h : CRow w v l) : lenV v = l.length := by
  obtain ⟨a, cap, rfl, _⟩ := h
  rfl
theorem dwn_le (h : List Int → Bool) (N : Nat) : ∀ f l, l.length ≤ N → (dwn h f l).2 ≤ f * N
  | 0, l, _ => by simp [dwn]
  | f + 1, l, hl => by
    have hr := rnd_len h l.length l (Nat.le_refl _)
    have ih := dwn_le h N f (rnd h l.length l).1 (by omega)
    unfold dwn
    rw [Nat.add_mul]
    split <;> simp <;> omega
theorem kpt_drop {pb tb B : Nat} {w w' : World} (h : Kpt [pb, tb] B w w') (hp : B ≤ pb) (q : Nat) : Kpt [tb] B w (w'.drewN q) :=
  ⟨h.os, h.tape, h.output, h.size, fun k hk hs => h.block k hk (fun hm => by
    rcases List.mem_cons.1 hm with e | e
    · omega
    · exact hs e)⟩
/-- What holds at a round's head: the row, whether one was left out, how often was asked till now. -/
structure DS (h : List Int → Bool) (l : List Int) (pb tb : Nat) (kinds count n : Int) (w : World) (v : Value) (c : Bool) (wr : World) (f A : Nat) (lc : List Int) : Prop where
  row : CRow wr v lc
  top : lc.length ≤ l.length
  fuel : c = true → lc.length < f
  eq : dwn h (l.length + 1) l = if c then ((dwn h f lc).1, A + (dwn h f lc).2) else (lc, A)
  pb' : PB wr pb tb (1 + A)
  tb' : TB wr tb kinds count (n + 1 + A)
  kpt : Kpt [pb, tb] w.heap.size w wr
theorem DS.le {h : List Int → Bool} {l : List Int} {pb tb : Nat} {kinds count n : Int} {w : World} {v : Value} {c : Bool} {wr : World} {f A : Nat} {lc : List Int} (d : DS h l pb tb kinds count n w v c wr f A lc) (hl : l.length ≤ 1000) : A ≤ 2000000 := by
  have h1 := dwn_le h 1000 (l.length + 1) l hl
  rw [d.eq] at h1
  have h2 : (l.length + 1) * 1000 ≤ 1001 * 1000 := Nat.mul_le_mul_right _ (by omega)
  cases c <;> simp at h1 <;> omega
theorem DS.step {kinds count n : Int} {l lc : List Int} {pb tb : Nat} {w wr w2 : World} {v v2 : Value} {f A : Nat} (d : DS (hasB kinds count) l pb tb kinds count n w v true wr f A lc)
    (hr : CRow w2 v2 (rnd (hasB kinds count) lc.length lc).1) (hp : PB w2 pb tb (1 + A + lc.length)) (ht : TB w2 tb kinds count (n + 1 + A + lc.length)) (hk : Kpt [pb, tb] wr.heap.size wr w2) :
    ∃ f' A', DS (hasB kinds count) l pb tb kinds count n w v2 (rnd (hasB kinds count) lc.length lc).2 w2 f' A' (rnd (hasB kinds count) lc.length lc).1 := by
  have hl := rnd_len (hasB kinds count) lc.length lc (Nat.le_refl _)
  have hf := d.fuel rfl
  obtain ⟨f, rfl⟩ : ∃ g, f = g + 1 := ⟨f - 1, by omega⟩
  refine ⟨f, A + lc.length, hr, by have := d.top; omega, fun hc => by have := hl.2 hc; omega, ?_, ?_, ?_, d.kpt.trans (hk.mono d.kpt.size (fun _ hm _ => hm))⟩
  · rw [d.eq, dwn]
    cases hq : (rnd (hasB kinds count) lc.length lc).2 <;> simp [Nat.add_assoc]
  · rw [show (1 : Int) + ((A + lc.length : Nat) : Int) = 1 + A + lc.length by omega]; exact hp
  · rw [show n + 1 + ((A + lc.length : Nat) : Int) = n + 1 + A + lc.length by omega]; exact ht
set_option maxHeartbeats 1600000 in
theorem down_nil (l : List Int) (v : Value) (w : World) (h : CRow w v l) (hlen : l.length ≤ 1000) :
    Calls Try.prog 6 #[v, .nilIface] w fun e w' => ∃ v', e = .returned (.tuple #[v', .int .i64 0]) ∧ CRow w' v' l ∧ Below w.heap.size w w' := by
  go_enter Try.func6, Try.ntmps6
  go_wp2_with (go_at_call 13; refine (clone_any l v _ h hlen).mono ?_; rintro e w1 ⟨v1, rfl, ho1, hb1⟩)
  refine bodyPost_ret (v := .tuple #[v1, .int .i64 0]) (by simp [results, Try.results6, go_sem]) rfl ⟨v1, rfl, CRow.of_own ho1, hb1⟩
set_option maxHeartbeats 1600000 in
theorem down_any (l : List Int) (v : Value) (tb : Nat) (kinds count n : Int) (w : World) (hT : TB w tb kinds count n) (h : CRow w v l) (hlen : l.length ≤ 1000) (hn0 : 0 ≤ n) (hn1 : n ≤ 10000000) :
    Calls Try.prog 6 #[v, .iface 24 (.pointer (some ⟨tb, 0, none⟩))] w fun e w' => ∃ v', e = .returned (.tuple #[v', .int .i64 (down (hasB kinds count) l).2]) ∧ CRow w' v' (down (hasB kinds count) l).1 ∧ TB w' tb kinds count (n + (down (hasB kinds count) l).2) ∧ Kpt [tb] w.heap.size w w' := by
  have ht := lt_of_heap hT
  have HT : Hid (TB w tb kinds count n) := hT
  clear hT
  go_enter Try.func6, Try.ntmps6
  go_wp2_with (go_at_call 13; refine (clone_any l v _ h hlen).mono ?_; rintro e w1 ⟨v1, rfl, ho1, hb1⟩)
  obtain ⟨W2, hW2⟩ : ∃ W2, W2 = w1.alloc (Obj.cells #[.iface 24 (.pointer (some ⟨tb, 0, none⟩)), .int .i64 0] 48) := ⟨_, rfl⟩
  have hb2 : Below w.heap.size w W2 := by rw [hW2]; exact hb1.alloc hb1.size _
  have hP2 : PB W2 w1.heap.size tb 0 := by rw [hW2]; exact heap_alloc_new w1 _
  have hT2 : TB W2 tb kinds count n := (hb2.block tb ht).trans HT.out
  have hr2 : CRow W2 v1 l := (CRow.of_own ho1).below (by rw [hW2]; exact (Below.refl _ _).alloc (Nat.le_refl _) _)
  have hpw : w.heap.size ≤ w1.heap.size := hb1.size
  rw [← hW2]
  generalize w1.heap.size = pb at *
  clear hW2 ho1 hb1
  refine (parer_has l v1 pb tb kinds count n 0 W2 hP2 hT2 hr2 hlen hn0 (by omega) (by omega) (by omega)).mono ?_
  rintro e w3 ⟨rfl, hp3, ht3, hk3⟩
  have hr3 := hr2.kpt hk3 (ptne hP2 hT2)
  have hk : Kpt [pb, tb] w.heap.size w w3 := (Kpt.of hb2 _).trans (hk3.mono hb2.size (fun _ hm _ => hm))
  clear hk3 hr2 hP2 hT2 hb2
  by_cases hy : hasB kinds count l = true
  · have hD : DS (hasB kinds count) l pb tb kinds count n w v1 true w3 (l.length + 1) 0 l :=
      ⟨hr3, Nat.le_refl _, fun _ => by omega, by simp, by simpa using hp3, by simpa using ht3, hk⟩
    have HE : Hid (down (hasB kinds count) l = ((dwn (hasB kinds count) (l.length + 1) l).1, 1 + (dwn (hasB kinds count) (l.length + 1) l).2)) := by unfold Hid down; rw [if_pos hy]
    clear hp3 ht3 hr3 hk
    go_wp2
    go_loopw [0, 7] (fun v c wr => ∃ cb f A lc, c = .bool cb ∧ DS (hasB kinds count) l pb tb kinds count n w v cb wr f A lc) (fun v c _ => mesV v c)
    case atStart => exact ⟨true, _, _, _, rfl, hD⟩
    case round =>
      obtain ⟨cb, f, A, lc, rfl, hD⟩ := hrel
      cases cb with
      | false =>
        have hA := hD.le hlen
        have hr := hD.row
        have c0 : wr.cell? ⟨pb, 1, none⟩ = some (.int .i64 (1 + A)) := cell_of_heap hD.pb'
        have he : Hid (dwn (hasB kinds count) (l.length + 1) l = (lc, A)) := by unfold Hid; have := hD.eq; simpa using this
        go_wp2
        go_quiet (fail)
        go_wp2
        refine bodyPost_ret (v := .tuple #[u0, .int .i64 (1 + A)]) (by simp [results, Try.results6, go_sem]) rfl ⟨u0, ?_, ?_, ?_, ?_⟩
        · rw [HE.out, he.out]; simp
        · rw [HE.out, he.out]; exact hr
        · rw [HE.out, he.out]; have := hD.tb'; rw [show n + ((1 + A : Nat) : Int) = n + 1 + A by omega]; exact this
        · exact kpt_drop hD.kpt hpw _
      | true =>
        have hA := hD.le hlen
        have htop := hD.top
        have HD : Hid (DS (hasB kinds count) l pb tb kinds count n w u0 true wr f A lc) := hD
        clear hD
        go_wp2_with (go_at_call 15; refine (round_any lc u0 pb tb kinds count (n + 1 + A) (1 + A) wr HD.out.pb' HD.out.tb' HD.out.row (by omega) (by omega) (by omega) (by omega) (by omega)).mono ?_; rintro e w4 ⟨v4, rfl, hr4, hp4, ht4, hk4⟩)
        obtain ⟨f', A', hD'⟩ := HD.out.step hr4 hp4 ht4 hk4
        have h1 := HD.out.row.lenV
        have h2 := hr4.lenV
        have h3 := (rnd_len (hasB kinds count) lc.length lc (Nat.le_refl _)).2
        go_roundw
        case rel => exact ⟨_, f', A', _, rfl, hD'⟩
        case measure =>
          simp [mesV, h1]
          cases hq : (rnd (hasB kinds count) lc.length lc).2 with
          | false => simp
          | true => simp [h2]; exact h3 hq
  · have HE : Hid (down (hasB kinds count) l = (l, 1)) := by unfold Hid down; rw [if_neg hy]
    have c0 : w3.cell? ⟨pb, 1, none⟩ = some (.int .i64 (0 + 1)) := cell_of_heap hp3
    have hyf : hasB kinds count l = false := by simpa using hy
    clear hy
    go_wp2
    go_quiet (fail)
    go_wp2
    refine bodyPost_ret (v := .tuple #[v1, .int .i64 (0 + 1)]) (by simp [results, Try.results6, go_sem]) rfl ⟨v1, ?_, ?_, ?_, ?_⟩
    · rw [HE.out]; simp
    · rw [HE.out]; exact hr3
    · rw [HE.out]; exact ht3
    · exact kpt_drop hk hpw _
end Go.Proofs.Ytfkgigkkolekeaa
