/- Words of this seat: rows of ticks in memory, what is kept, and the plain functions. -/
import Derived.Test.YtfkgigkkolekeaaRows
import Derived.WalkKit
import Derived.LoopTactic
import Derived.Below
import Derived.Outline
import Derived.WalkSpells
import Derived.WalkLawsBesides
namespace Go.Proofs.Ytfkgigkkolekeaa
open Go.RowKit

theorem hid2 {p : Prop} (h : p) : Hid p := h
theorem ret_int {k : IntKind} {a b : Int} (h : a = b) : Ending.returned (.int k a) = .returned (.int k b) := by rw [h]
/-! ### plain functions -/
def shN (x : Int) : Nat := min ((IntKind.u64.wrap x).tmod 60).toNat 64
def shI (kinds x : Int) : Int := (IntKind.u64.wrap kinds).fdiv (2 ^ shN x)
def bitB (kinds x : Int) : Bool := bits BinOp.and IntKind.u64 (shI kinds x) 1 == 1
def cntN (kinds : Int) (l : List Int) : Nat := (l.filter (bitB kinds)).length
def hasB (kinds count : Int) (l : List Int) : Bool := decide (count ≤ (cntN kinds l : Int))
/-- One round: from place n - 1 down to 0 each is left out without which it is there. -/
def rnd (h : List Int → Bool) : Nat → List Int → List Int × Bool
  | 0, l => (l, false)
  | n + 1, l => if h (l.eraseIdx n) then ((rnd h n (l.eraseIdx n)).1, true) else rnd h n l
def dwn (h : List Int → Bool) : Nat → List Int → List Int × Nat
  | 0, l => (l, 0)
  | f + 1, l => if (rnd h l.length l).2 then ((dwn h f (rnd h l.length l).1).1, l.length + (dwn h f (rnd h l.length l).1).2) else ((rnd h l.length l).1, l.length)
def down (h : List Int → Bool) (l : List Int) : List Int × Nat := if h l then ((dwn h (l.length + 1) l).1, 1 + (dwn h (l.length + 1) l).2) else (l, 1)
/-- The first n from k on (of d places) at which it is there. -/
def fst (h : List Int → Bool) (l : List Int) : Nat → Nat → Int
  | 0, _ => -1
  | d + 1, k => if h (l.take k) then (k : Int) else fst h l d (k + 1)

theorem cntN_le (kinds : Int) (l : List Int) : cntN kinds l ≤ l.length := List.length_filter_le _ _
theorem cntN_snoc (kinds : Int) (l : List Int) (k : Nat) (x : Int) (h : l[k]? = some x) : cntN kinds (l.take (k + 1)) = cntN kinds (l.take k) + if bitB kinds x then 1 else 0 := by
  unfold cntN
  rw [List.take_add_one, h, List.filter_append]
  by_cases hb : bitB kinds x = true <;> simp [hb]

/-! ### ticks as cells -/
def tkc (x : Int) : List Value := [.int .i64 18, .int .i64 0, .int .i64 0, .int .i64 0, .int .i64 0, .int .i64 0, .int .i64 x, .int .i64 0, .int .i64 0, .int .i64 0, .int .i64 0, .int .i64 0, .int .i64 0, .int .i64 0, .bool false]
def cellsOf : List Int → List Value
  | [] => []
  | x :: l => tkc x ++ cellsOf l
theorem tkc_len (x : Int) : (tkc x).length = 15 := rfl
theorem cellsOf_len : ∀ l, (cellsOf l).length = l.length * 15
  | [] => rfl
  | x :: l => by simp [cellsOf, cellsOf_len l, tkc_len]; omega
theorem cellsOf_append : ∀ l m, cellsOf (l ++ m) = cellsOf l ++ cellsOf m
  | [], _ => rfl
  | x :: l, m => by simp [cellsOf, cellsOf_append l m]
theorem cellsOf_get : ∀ (l : List Int) (j i : Nat) (x : Int), l[j]? = some x → i < 15 → (cellsOf l)[j * 15 + i]? = (tkc x)[i]?
  | [], j, i, x, h, _ => by simp at h
  | y :: l, 0, i, x, h, hi => by
    simp at h; subst h
    rw [Nat.zero_mul, Nat.zero_add, cellsOf, List.getElem?_append_left (by rw [tkc_len]; omega)]
  | y :: l, j + 1, i, x, h, hi => by
    simp at h
    rw [cellsOf, List.getElem?_append_right (by rw [tkc_len]; omega), tkc_len, show (j + 1) * 15 + i - 15 = j * 15 + i by omega]
    exact cellsOf_get l j i x h hi
theorem cellsOf_one : ∀ l, ∀ u ∈ cellsOf l, u.oneCell' = true
  | [], u, h => by cases h
  | x :: l, u, h => by
    rcases List.mem_append.1 h with h | h
    · simp [tkc] at h; rcases h with rfl | rfl | rfl | rfl | rfl <;> rfl
    · exact cellsOf_one l u h
theorem cellsOf_take (l : List Int) (n : Nat) (hn : n ≤ l.length) : (cellsOf l).take (n * 15) = cellsOf (l.take n) := by
  have h := cellsOf_append (l.take n) (l.drop n)
  rw [List.take_append_drop] at h
  rw [h, List.take_left' (by rw [cellsOf_len, List.length_take]; omega)]
theorem cellsOf_drop (l : List Int) (n : Nat) (hn : n ≤ l.length) : (cellsOf l).drop (n * 15) = cellsOf (l.drop n) := by
  have h := cellsOf_append (l.take n) (l.drop n)
  rw [List.take_append_drop] at h
  rw [h, List.drop_left' (by rw [cellsOf_len, List.length_take]; omega)]

/-- A slice that reads as a row of ticks. -/
def CRow (w : World) (v : Value) (l : List Int) : Prop :=
  ∃ a cap, v = .slice a l.length cap ∧ l.length ≤ cap ∧ cap ≤ maxLen ∧
    (l ≠ [] → ∃ b off cur pre post, a = some ⟨b, off, none⟩ ∧ w.heap[b]? = some (.cells cur 42 (0, 0)) ∧ cur.toList = pre ++ (cellsOf l ++ post) ∧ pre.length = off)
/-- A slice that reads as a row of numbers. -/
def IRow (w : World) (v : Value) (l : List Int) : Prop :=
  ∃ a cap, v = .slice a l.length cap ∧ l.length ≤ cap ∧ cap ≤ maxLen ∧
    ∀ j, j < l.length → ∃ b off, a = some ⟨b, off, none⟩ ∧ w.cell? ⟨b, off + j, none⟩ = some (.int .i64 (l.getD j 0))

/-- Below B, but for the blocks of S, w' is as w was. -/
structure Kpt (S : List Nat) (B : Nat) (w w' : World) : Prop where
  os : w'.os = w.os
  tape : w'.tape = w.tape
  output : w'.output = w.output
  size : w.heap.size ≤ w'.heap.size
  block : ∀ k, k < B → k ∉ S → w'.heap[k]? = w.heap[k]?
theorem Kpt.of {B : Nat} {w w' : World} (h : Below B w w') (S : List Nat) : Kpt S B w w' := ⟨h.os, h.tape, h.output, h.size, fun k hk _ => h.block k hk⟩
theorem Kpt.below {S : List Nat} {B B' : Nat} {w w' : World} (h : Kpt S B w w') (hB : B' ≤ B) (hS : ∀ k ∈ S, B' ≤ k) : Below B' w w' :=
  ⟨h.os, h.tape, h.output, h.size, fun k hk => h.block k (by omega) (fun hm => by have := hS k hm; omega)⟩
theorem Kpt.trans {S : List Nat} {B : Nat} {a b c : World} (h : Kpt S B a b) (k : Kpt S B b c) : Kpt S B a c :=
  ⟨k.os.trans h.os, k.tape.trans h.tape, k.output.trans h.output, Nat.le_trans h.size k.size, fun i hi hs => (k.block i hi hs).trans (h.block i hi hs)⟩
theorem Kpt.mono {S S' : List Nat} {B B' : Nat} {w w' : World} (h : Kpt S B w w') (hB : B' ≤ B) (hS : ∀ k ∈ S, k < B' → k ∈ S') : Kpt S' B' w w' :=
  ⟨h.os, h.tape, h.output, h.size, fun k hk hs => h.block k (by omega) (fun hm => hs (hS k hm hk))⟩
theorem lt_of_heap {w : World} {b : Nat} {o : Obj} (h : w.heap[b]? = some o) : b < w.heap.size := (Array.getElem?_eq_some_iff.1 h).1
theorem CRow.keep {w w' : World} {v : Value} {l : List Int} (h : CRow w v l) (hk : ∀ (b : Nat) (cur : Array Value), w.heap[b]? = some (Obj.cells cur 42 (0, 0)) → w'.heap[b]? = w.heap[b]?) : CRow w' v l := by
  obtain ⟨a, cap, rfl, h1, h2, h3⟩ := h
  refine ⟨a, cap, rfl, h1, h2, fun hl => ?_⟩
  obtain ⟨b, off, cur, pre, post, ha, hb, hr⟩ := h3 hl
  exact ⟨b, off, cur, pre, post, ha, (hk b cur hb).trans hb, hr⟩
theorem CRow.below {w w' : World} {v : Value} {l : List Int} (h : CRow w v l) (hb : Below w.heap.size w w') : CRow w' v l :=
  h.keep fun b _ hh => hb.block b (lt_of_heap hh)
theorem block_lt_of_cell {w : World} {a : Addr} {v : Value} (h : w.cell? a = some v) : a.block < w.heap.size := World.block_lt_of_cell? w a h
theorem IRow.keep {w w' : World} {v : Value} {l : List Int} (h : IRow w v l) (hk : ∀ (a : Addr) (x : Int), w.cell? a = some (.int .i64 x) → w'.cell? a = w.cell? a) : IRow w' v l := by
  obtain ⟨a, cap, rfl, h1, h2, h3⟩ := h
  refine ⟨a, cap, rfl, h1, h2, fun j hj => ?_⟩
  obtain ⟨b, off, ha, hc⟩ := h3 j hj
  exact ⟨b, off, ha, (hk _ _ hc).trans hc⟩
theorem IRow.below {w w' : World} {v : Value} {l : List Int} (h : IRow w v l) (hb : Below w.heap.size w w') : IRow w' v l :=
  h.keep fun _ _ hc => hb.cell (block_lt_of_cell hc)
theorem CRow.ne {w : World} {v : Value} {l : List Int} (h : CRow w v l) : ∃ a cap, v = .slice a l.length cap ∧ l.length ≤ cap ∧ cap ≤ maxLen := by
  obtain ⟨a, cap, rfl, h1, h2, _⟩ := h
  exact ⟨a, cap, rfl, h1, h2⟩
/-- A cell of a row of ticks. -/
theorem crow_cell {w : World} {b off j i : Nat} {cur : Array Value} {pre post : List Value} {l : List Int} {x : Int} {u : Value} (hb : w.heap[b]? = some (.cells cur 42 (0, 0))) (hc : cur.toList = pre ++ (cellsOf l ++ post)) (hp : pre.length = off)
    (hx : l[j]? = some x) (hu : (tkc x)[i]? = some u) : w.cell? ⟨b, off + (j * 15 + i), none⟩ = some u := by
  have hi : i < 15 := by have := (List.getElem?_eq_some_iff.1 hu).1; simpa [tkc_len] using this
  have hj : j < l.length := (List.getElem?_eq_some_iff.1 hx).1
  simp only [World.cell?, hb, Option.isSome_none, Bool.false_eq_true, if_false]
  rw [← Array.getElem?_toList, hc, List.getElem?_append_right (by omega), hp, Nat.add_sub_cancel_left, List.getElem?_append_left (by rw [cellsOf_len]; omega), cellsOf_get l j i x hx hi, hu]
theorem CRow.of_own {w : World} {base : Nat} {v : Value} {l : List Int} (h : w.ownsRow base 42 15 v l.length (cellsOf l)) : CRow w v l := by
  obtain ⟨h1, h2⟩ := h
  rcases h2 with ⟨rfl, h0⟩ | ⟨g, cap, cur, rfl, hb, hg, hn, hm, hs, ht⟩
  · exact ⟨none, 0, by rw [h0], by omega, by decide, fun hl => absurd (List.eq_nil_of_length_eq_zero h0) hl⟩
  · refine ⟨_, cap, rfl, hn, hm, fun _ => ⟨g, 0, cur, [], cur.toList.drop (l.length * 15), rfl, hg, ?_, rfl⟩⟩
    rw [List.nil_append, ← ht, List.take_append_drop]
theorem IRow.of_own {w : World} {base : Nat} {v : Value} {l : List Int} (h : w.ownsRow base 3 1 v l.length (l.map (Value.int .i64))) : IRow w v l := by
  have h' := h
  obtain ⟨h1, h2⟩ := h
  rcases h2 with ⟨rfl, h0⟩ | ⟨g, cap, cur, rfl, hb, hg, hn, hm, hs, ht⟩
  · exact ⟨none, 0, by rw [h0], by omega, by decide, fun j hj => by omega⟩
  · refine ⟨_, cap, rfl, hn, hm, fun j hj => ⟨g, 0, rfl, ?_⟩⟩
    have := h'.cells (g := g) rfl j (.int .i64 (l.getD j 0)) (by simp [hj])
    rwa [Addr.add_lit] at this
/-- The test's block, the asker's. -/
def TB (w : World) (tb : Nat) (kinds count n : Int) : Prop := w.heap[tb]? = some (.cells #[.int .i64 kinds, .int .i64 count, .int .i64 n] 26 (0, 0))
def PB (w : World) (pb tb : Nat) (n : Int) : Prop := w.heap[pb]? = some (.cells #[.iface 24 (.pointer (some ⟨tb, 0, none⟩)), .int .i64 n] 48 (0, 0))
end Go.Proofs.Ytfkgigkkolekeaa
